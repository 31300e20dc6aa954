/- A part of the proof: the reference is safe, both packages write and read alike. Several texts in one; printed by slim28.py out of the texts of wip. -/
import Derived.Test.YtjmnolhkkpaodaaGreatDoorZ40
import Derived.LoopN
import Derived.Test.YtjmnolhkkpaodaaGreatDoorTie
import Derived.Test.YtjmnolhkkpaodaaGreatDoorCards
import Derived.LaidMore
import Derived.Lay
import Derived.SevenTiedAt
import Derived.Stop.Joined
import Derived.Lib.LaidIn
set_option linter.all false
namespace Go.Proofs.YtjmnolhkkpaodaaGreatDoor
open Go Go.Sx Go.RowKit
set_option maxRecDepth 100000
def owM (l : List Rq) (a : Option Addr) (c : Nat) : Own := ⟨34, 17, a, l.length, c, cellsL l⟩
noncomputable def kF3 (l : List Rq) (a : Option Addr) (c : Nat) : Bool := okQ (owM l a c) a l.length c && okFm (unC (cellsL l))
theorem fmtOk_of {l l' : List Rq} (h : l'.map Rq.pv = l.map Rq.pv) (hv : ∀ q ∈ l, VQ q) (hl : l.length ≤ 5000000) : FmtOk l' := by
 have e : fmtL l' = (l'.map Rq.pv).flatMap fun p => D p.txt ++ [10] := by unfold fmtL; rw [List.flatMap_map]
 have hlen : l'.length = l.length := by
  have := congrArg List.length h
  simpa using this
 refine ⟨?_, ?_⟩
 · have key : ∀ l : List Rq, (fmtL l).length ≤ 101 * l.length := by
    intro l
    induction l with
    | nil => exact Nat.le_refl _
    | cons q l ih =>
     have e : fmtL (q :: l) = (D q.pv.txt ++ [10]) ++ fmtL l := rfl
     have ht := txt_size q.pv
     rw [e, List.length_append, List.length_append, D_len, List.length_singleton, List.length_cons]
     omega
   have := key l'
   omega
 · intro q hq
   obtain ⟨r, hr, e⟩ := List.mem_map.1 (h ▸ List.mem_map.2 ⟨q, hq, rfl⟩ : q.pv ∈ l.map Rq.pv)
   rw [← e]
   have hv := hv r hr
   unfold rngP
   rw [show r.pv.a = r.a from rfl, show r.pv.d = r.d from rfl, decide_eq_true hv.a1, decide_eq_true hv.a2, decide_eq_true hv.d1, decide_eq_true hv.d2]
   rfl
theorem kF3_ok (l : MadeL) (a : Option Addr) (c : Nat) : kF3 l.1 a c = true := by
 unfold kF3 owM
 rw [okQ_cells]
 exact @decide_eq_true _ (Classical.propDecidable _) (fmtOk_of (unC_pv l.1) l.2.1 l.2.2)
theorem sEq_self (s : ByteArray) : sEq s s = true := by rw [sEq_eq]; exact decide_eq_true rfl
end Go.Proofs.YtjmnolhkkpaodaaGreatDoor
namespace Go.Proofs.YtjmnolhkkpaodaaGreatDoor
open Go Go.Sx Go.RowKit
set_option maxRecDepth 100000
def le9 (n : Nat) : Bool := decide ((n : Int) ≤ 9223372036854775807)
def inT (t : ByteArray) (k : Int) : Bool := decide (0 ≤ k) && decide (k ≤ (t.size : Int))
def ext0 (t : ByteArray) (k : Int) : ByteArray := t.extract 0 k.toNat
def ext1 (t : ByteArray) (k : Int) : ByteArray := t.extract k.toNat t.size
def mn4 (t : ByteArray) (k : Int) : Int := gmin (gadd .i64 k 1) (t.size : Int)
theorem ext0_size {t : ByteArray} {k : Int} (h1 : k ≤ (t.size : Int)) : (ext0 t k).size = k.toNat := by
 unfold ext0
 rw [ByteArray.size_extract]
 omega
theorem ext1_size {t : ByteArray} {k : Int} : (ext1 t k).size = t.size - k.toNat := by
 unfold ext1
 rw [ByteArray.size_extract]
 omega
theorem strB1_size (v : Int) : (strB [v]).size = 1 := rfl
theorem mn4_in {t : ByteArray} {k : Int} (h0 : 0 ≤ k) (h1 : k ≤ (t.size : Int)) (ht : t.size ≤ 1000000000) : 0 ≤ mn4 t k ∧ mn4 t k ≤ (t.size : Int) := by
 unfold mn4
 have e : gadd .i64 k 1 = k + 1 := by
  have := gadd_nat (v := k.toNat) (by omega)
  rw [show ((k.toNat : Nat) : Int) = k by omega] at this
  rw [this]
  omega
 rw [e]
 unfold gmin
 split <;> omega
theorem inT_ok {t : ByteArray} {k : Int} (h0 : 0 ≤ k) (h1 : k ≤ (t.size : Int)) : inT t k = true := by
 unfold inT
 rw [decide_eq_true h0, decide_eq_true h1]
 rfl
theorem le9_ok {n : Nat} (h : n ≤ 4000000000) : le9 n = true := decide_eq_true (by omega)
theorem lim3_ok {t : ByteArray} (h : t.size ≤ 3000000000) : lim3 t = true := decide_eq_true h
structure Q4 (W : World) (s t : ByteArray) (k : Int) : Prop where
 hs : s.size ≤ 500
 ht : t.size ≤ 1000000000
 k0 : 0 ≤ k
 k1 : k ≤ (t.size : Int)
 g : gMax W = true
noncomputable def q4 (W : World) (s t : ByteArray) (k : Int) : Bool := @decide (Q4 W s t k) (Classical.propDecidable _)
def plc4 (x k : Int) : Int := IntKind.i64.wrap ((IntKind.u64.wrap x).tmod (IntKind.u64.wrap k))
def limF4 (s : ByteArray) (n : Nat) : Bool := bif decide ((s.size : Int) > 500) then true else decide ((n : Int) > 200)
noncomputable def tx4 (l : List Rq) : ByteArray := fmtT (unC (cellsL l))
def one4 (t : ByteArray) : Int := gadd .i64 (t.size : Int) 1
noncomputable def cF4 (W : World) (s : ByteArray) (a : Option Addr) (n c : Nat) (i : Int) (l : List Rq) (a1 : Option Addr) (c1 : Nat) : Bool :=
 (okScr W a n c && kF3 l a1 c1) && ((!decide (IntKind.u64.wrap (one4 (tx4 l)) = 0)) && q4 W s (tx4 l) (plc4 i (one4 (tx4 l))))
def LB8 (c : SB) (b : Bool) (g : Gh) : RG := .leaf .ret c [(8, .one (.bool (.lit b)))] ⟨[], [], 0⟩ g
theorem fmtL_size (l : List Rq) : (fmtL l).length ≤ 101 * l.length := by
 induction l with
 | nil => exact Nat.le_refl _
 | cons q l ih =>
  have e : fmtL (q :: l) = (D q.pv.txt ++ [10]) ++ fmtL l := rfl
  have ht := txt_size q.pv
  rw [e, List.length_append, List.length_append, D_len, List.length_singleton, List.length_cons]
  omega
theorem tx4_size (l : MadeL) : (tx4 l.1).size ≤ 505000000 := by
 have h1 : (tx4 l.1).size = (fmtL (unC (cellsL l.1))).length := by
  unfold tx4
  rw [← D_len, D_fmtT]
 have h2 := fmtL_size (unC (cellsL l.1))
 rw [unC_len] at h2
 have := l.2.2
 omega
theorem one4_eq (l : MadeL) : one4 (tx4 l.1) = ((tx4 l.1).size : Int) + 1 := by
 have := gadd_nat (v := (tx4 l.1).size) (by have := tx4_size l; omega)
 unfold one4
 rw [this]
 omega
theorem cF4_ok {W : World} {s : ByteArray} {a : Option Addr} {n c : Nat} {i : Int} (hs : s.size ≤ 500) (hr : RowOk W .i64 a n c) (hm : gMax W = true) (l : MadeL) (a1 : Option Addr) (c1 : Nat) : cF4 W s a n c i l.1 a1 c1 = true := by
 have h1 := one4_eq l
 have h2 := tx4_size l
 have hw : IntKind.u64.wrap (one4 (tx4 l.1)) = ((tx4 l.1).size : Int) + 1 := by
  have hu : ∀ y : Int, IntKind.u64.wrap y = y % 18446744073709551616 := fun y => by simp [IntKind.wrap, IntKind.bits, IntKind.signed]
  rw [h1, hu]
  omega
 have hp := place_range i (one4 (tx4 l.1)) (by rw [h1]; omega) (by rw [h1]; omega)
 have hQ : Q4 W s (tx4 l.1) (plc4 i (one4 (tx4 l.1))) := ⟨hs, by omega, hp.1, by have := hp.2; unfold plc4; omega, hm⟩
 unfold cF4 okScr q4
 rw [kF3_ok, @decide_eq_true _ (Classical.propDecidable _) hr, @decide_eq_true _ (Classical.propDecidable _) hQ, hw, decide_eq_false (by omega)]
 rfl
end Go.Proofs.YtjmnolhkkpaodaaGreatDoor
namespace Go.Sx
open Go Go.RowKit
set_option maxRecDepth 100000
section
variable {W : Bs} {P : Program} {G : List (Nat × Spec)}
noncomputable def loopU (P : Program) (W : World) (G : List (Nat × Spec)) (N nt : Nat) (t : HG) (c : Code) : Nat → SL → Mem → Gh → RG
 | 0, _, _, _ => .fail
 | n + 1, s, m, g => (runG P W G N nt t c s m g).bind (loopU P W G N nt t c n)
theorem rounds_monoU {c : Code} {Q Q' : Exit → Act → World → Prop} (h : ∀ e a w, Q e a w → Q' e a w) : ∀ (n : Nat) (a : Act) (w : World), Code.rounds P c Q n a w → Code.rounds P c Q' n a w
 | 0, _, _, h1 => h1
 | n + 1, a, w, h1 => by
  rw [rounds_succ] at h1 ⊢
  refine wp_mono h1 ?_
  intro e a1 w1 h2
  cases e with
  | normal => exact rounds_monoU h n a1 w1 h2
  | _ => exact h _ _ _ h2
theorem loopU_rounds (hG : GOk W.W P G) {N nt : Nat} {t : HG} {c : Code} (ht : HGW W P nt t c) : ∀ (n : Nat) (s : SL) (m : Mem) (g : Gh) (f : Nat → Nat) (a : Act) (w : World), (loopU P W.W G N nt t c n s m g).Good → GSt W nt s m g f a w →
  Code.rounds P c (GPost W nt (loopU P W.W G N nt t c n s m g)) n a w
 | 0, _, _, _, _, _, _, hg, _ => hg.elim
 | n + 1, s, m, g, f, a, w, hg, h => by
  rw [rounds_succ]
  unfold loopU at hg ⊢
  refine wp_mono (runG_sound hG t c s m g f a w ht.h (RG.good_of_bind hg) h) ?_
  intro e a1 w1 hp
  cases e with
  | normal =>
   obtain ⟨s1, m1, g1, f1, h1, hgood, hlift⟩ := bind_leaf hg hp
   exact rounds_monoU hlift n a1 w1 (loopU_rounds hG ht n s1 m1 g1 f1 a1 w1 hgood h1)
  | exit i => exact bind_other (by simp) hp
  | goto l => exact bind_other (by simp) hp
  | ret => exact bind_other (by simp) hp
  | panic c => exact bind_other (by simp) hp
  | outgrown => exact bind_other (by simp) hp
theorem loopU_ok (hG : GOk W.W P G) {N nt : Nat} {t : HG} {c : Code} (ht : HGW W P nt t c) (n : Nat) : CustOk W P nt (.loop c) (loopU P W.W G N nt t c n) := by
 intro s m g f a w hg h
 exact wp_loop_rounds n (loopU_rounds hG ht n s m g f a w hg h)
noncomputable def custZ (ks : List (Nat × Bool)) (E : SL → Gh → RG) (s : SL) (_ : Mem) (g : Gh) : RG := E (pickS (look s) ks) g
theorem custZ_ok {nt : Nat} {c : Code} (hp : W.pin = none) {ks : List (Nat × Bool)} {E : SL → Gh → RG} (h : ∀ (S : SL) (g : Gh) (f : Nat → Nat) (a : Act) (w : World), (E S g).Good → GSt W nt S ⟨[], [], 0⟩ g f a w → c.wp P (GPost W nt (E S g)) a w) : CustOk W P nt c (custZ ks E) := by
 intro s m g f a w hg hst
 exact h _ g f a w hg (hst.pick (bs := []) (Bl := []) (N := 0) rfl rfl (fun i hi => by rw [hp] at hi; cases hi) ks)
theorem tail0s_wp {n nt : Nat} {t : HG} {c : Code} {S : SL} {m : Mem} {g : Gh} {f : Nat → Nat} {a : Act} {w : World} (hst : GSt W nt S m g f a w) (hp : W.pin = none) (hG : GOk w P G) (ht : HGW (Bs.of w) P nt t c) {ks ke : List (Nat × Bool)} {E : RG}
  (hres : AllW ((runG P w G n nt t c S ⟨[], [], 0⟩ []).slim 0 ks [] ke []) fun e vc s _ _ => vc.val = true ∧
   ∀ f2 a2 w2 e', exOf e = some e' → GSt W nt s ⟨[], [], 0⟩ [] f2 a2 w2 → GPost W nt E e' a2 w2) : c.wp P (GPost W nt E) a w := by
 have hgd := RG.All.good (fun _ _ _ _ _ h => h.1) hres.h
 have hpn : ∀ i, (Bs.of w).pin = some i → 0 < 0 := fun i hi => by cases hi
 refine wp_mono (runG_sound (W := Bs.of w) hG t c _ _ _ _ _ w ht.h (slim_good hgd) hst.tail0) ?_
 intro e a2 w2 hp1
 have hp2 := slim_post hpn (by rfl) (by rfl) hgd hp1
 obtain ⟨ex, vc, s, m', g2, ⟨_, hk⟩, hex, f2, hst2⟩ := RG.All.meet hres.h hp2
 exact hk f2 a2 w2 e hex (hst.untail0 hp hst2)
end
end Go.Sx
namespace Go.Proofs.YtjmnolhkkpaodaaGreatDoor
open Go Go.Sx Go.RowKit
set_option maxRecDepth 100000
noncomputable def la6 : Code := match bodyOf Tryz.f6 with
 | .seq _ (.seq _ (.seq _ (.seq _ c))) => c
 | _ => .skip
noncomputable def lp6 : Code := match la6 with
 | .seq (.seq _ (.block _ (.loop c))) _ => c
 | _ => .skip
noncomputable def bl6 : Code := match lp6 with
 | .seq _ (.seq _ (.seq (.block _ c) _)) => c
 | _ => .skip
noncomputable def op6 : Array Oper := match bl6 with
 | .seq _ (.seq (.region _ o _) _) => o
 | _ => #[]
noncomputable def tl6 : Code := match bl6 with
 | .seq _ (.seq _ c) => c
 | _ => .skip
noncomputable def GF6 (W : World) : List (Nat × Sx.Spec) := [(9, specV (FFm W)), (7, specV (F7 W))]
theorem gokF6 (W : World) : GOk W Tryz.prog (GF6 W) := gok_cons (format9_ok W) (gok_cons (known_ok W) (gok_nil W))
def S6 (x : ByteArray) (a : Option Addr) (n c : Nat) (er : Int) (z0 z1 z2 : ByteArray) (r : SI) : SL := [(8, .one (.bool (.lit false))), (12, .one (.str x)), (13, .one (.sl a n c)), (15, .one (.int .i64 (.sym er))), (50, .agg [.str z0, .str z1, .str z2]), (51, .one (.int .i64 r))]
noncomputable def y6 (W : World) (x : ByteArray) (a : Option Addr) (n c : Nat) (er : Int) (z0 z1 z2 : ByteArray) (r : SI) : RG := runG Tryz.prog W (GF6 W) 100000 70 .plain tl6 (S6 x a n c er z0 z1 z2 r) ⟨[], [], 0⟩ []
def gl6 : RG → RG
 | .br _ x _ => x
 | r => r
def gr6 : RG → RG
 | .br _ _ x => x
 | r => r
def b6 (W : World) (x : ByteArray) (a : Option Addr) (n : Nat) (er : Int) : Bool := bif er == 0 then !(sEq (fmtB W a n) x) else false
noncomputable def d6 (W : World) (a : Option Addr) (n c : Nat) (er : Int) : Bool := bif er == 0 then okRP W a n c else true
noncomputable def z6 (W : World) (x : ByteArray) (a : Option Addr) (n c : Nat) (er : Int) (z0 z1 z2 : ByteArray) (r : SI) : RG := gr6 (y6 W x a n c er z0 z1 z2 r)
theorem y6_b (W : World) (x : ByteArray) (a : Option Addr) (n c : Nat) (er : Int) (z0 z1 z2 : ByteArray) (r : SI) : y6 W x a n c er z0 z1 z2 r = .br (b6 W x a n er) (gl6 (y6 W x a n c er z0 z1 z2 r)) (z6 W x a n c er z0 z1 z2 r) := by kernel_rfl
theorem z6_l (W : World) (x : ByteArray) (a : Option Addr) (n c : Nat) (er : Int) (z0 z1 z2 : ByteArray) (r : SI) : z6 W x a n c er z0 z1 z2 r = .leaf .nrm (.sym (d6 W a n c er)) (sOf7 (z6 W x a n c er z0 z1 z2 r)) (mOf7 (z6 W x a n c er z0 z1 z2 r)) (gOf7 (z6 W x a n c er z0 z1 z2 r)) := by kernel_rfl
theorem z6_8 (W : World) (x : ByteArray) (a : Option Addr) (n c : Nat) (er : Int) (z0 z1 z2 : ByteArray) (r : SI) : Sx.look (sOf7 (z6 W x a n c er z0 z1 z2 r)) 8 = some (.one (.bool (.lit false))) := by kernel_rfl
theorem z6_50 (W : World) (x : ByteArray) (a : Option Addr) (n c : Nat) (er : Int) (z0 z1 z2 : ByteArray) (r : SI) : Sx.look (sOf7 (z6 W x a n c er z0 z1 z2 r)) 50 = some (.agg [.str z0, .str z1, .str z2]) := by kernel_rfl
theorem z6_51 (W : World) (x : ByteArray) (a : Option Addr) (n c : Nat) (er : Int) (z0 z1 z2 : ByteArray) (r : SI) : Sx.look (sOf7 (z6 W x a n c er z0 z1 z2 r)) 51 = some (.one (.int .i64 r)) := by kernel_rfl
structure Q6 (x : ByteArray) (a : Option Addr) (n c : Nat) (ow : Own) : Prop where
 own : OwnQ ow a n c
 fmt : FmtOk (unC ow.xs)
 eq : fmtT (unC ow.xs) = x
noncomputable def q6 (x : ByteArray) (a : Option Addr) (n c : Nat) (er : Int) (ow : Own) : Bool := @decide (er = 0 → Q6 x a n c ow) (Classical.propDecidable _)
def gF : TV → Option Unit
 | .one (.bool (.lit false)) => some ()
 | _ => none
def gStr : TV → Option ByteArray
 | .one (.str x) => some x
 | _ => none
def gSl : TV → Option (Option Addr × Nat × Nat)
 | .one (.sl a n c) => some (a, n, c)
 | _ => none
def gSy : TV → Option Int
 | .one (.int .i64 (.sym e)) => some e
 | _ => none
def gIn : TV → Option SI
 | .one (.int .i64 r) => some r
 | _ => none
def gA3 : TV → Option (ByteArray × ByteArray × ByteArray)
 | .agg [.str x, .str y, .str z] => some (x, y, z)
 | _ => none
theorem gF_eq {v : TV} {u : Unit} (h : gF v = some u) : v = .one (.bool (.lit false)) := by
 unfold gF at h
 split at h
 · rfl
 · cases h
theorem gStr_eq {v : TV} {x : ByteArray} (h : gStr v = some x) : v = .one (.str x) := by
 unfold gStr at h
 split at h
 · simp only [Option.some.injEq] at h
   rw [h]
 · cases h
theorem gSl_eq {v : TV} {x : Option Addr × Nat × Nat} (h : gSl v = some x) : v = .one (.sl x.1 x.2.1 x.2.2) := by
 unfold gSl at h
 split at h
 · simp only [Option.some.injEq] at h
   rw [← h]
 · cases h
theorem gSy_eq {v : TV} {x : Int} (h : gSy v = some x) : v = .one (.int .i64 (.sym x)) := by
 unfold gSy at h
 split at h
 · simp only [Option.some.injEq] at h
   rw [h]
 · cases h
theorem gIn_eq {v : TV} {x : SI} (h : gIn v = some x) : v = .one (.int .i64 x) := by
 unfold gIn at h
 split at h
 · simp only [Option.some.injEq] at h
   rw [h]
 · cases h
theorem gA3_eq {v : TV} {x : ByteArray × ByteArray × ByteArray} (h : gA3 v = some x) : v = .agg [.str x.1, .str x.2.1, .str x.2.2] := by
 unfold gA3 at h
 split at h
 · simp only [Option.some.injEq] at h
   rw [← h]
 · cases h
def vals6 : List Nat → SL → Option (List TV)
 | [], [] => some []
 | k :: ks, (k', v) :: s => match Nat.beq k k' with
  | true => match vals6 ks s with
   | some l => some (v :: l)
   | none => none
  | false => none
 | _, _ => none
def zipS : List Nat → List TV → SL
 | k :: ks, v :: vs => (k, v) :: zipS ks vs
 | _, _ => []
theorem vals6_eq : ∀ {ks : List Nat} {s : SL} {l : List TV}, vals6 ks s = some l → s = zipS ks l
 | [], [], l, h => rfl
 | [], _ :: _, l, h => by cases h
 | _ :: _, [], l, h => by cases h
 | k :: ks, (k', v) :: s, l, h => by
  simp only [vals6] at h
  split at h <;> try contradiction
  rename_i hk
  split at h <;> try contradiction
  rename_i l' hl
  simp only [Option.some.injEq] at h
  subst h
  rw [Nat.beq_eq] at hk
  subst hk
  rw [vals6_eq hl]
  rfl
noncomputable def E6v (l : List TV) (ow : Own) : RG := match l with
 | [v8, v12, v13, v15, v50, v51] => match gF v8 with
  | some _ => match gStr v12 with
   | some x => match gSl v13 with
    | some p => match gSy v15 with
     | some er => match gA3 v50 with
      | some z => match gIn v51 with
       | some r => .leaf .nrm (.sym (q6 x p.1 p.2.1 p.2.2 er ow)) [(8, .one (.bool (.lit false))), (50, .agg [.str z.1, .str z.2.1, .str z.2.2]), (51, .one (.int .i64 r))] ⟨[], [], 0⟩ []
       | none => .fail
      | none => .fail
     | none => .fail
    | none => .fail
   | none => .fail
  | none => .fail
 | _ => .fail
noncomputable def E6 (S : SL) (g : Gh) : RG := match vals6 [8, 12, 13, 15, 50, 51] S with
 | some l => match g with
  | [ow] => E6v l ow
  | _ => .fail
 | none => .fail
theorem E6_good {S : SL} {g : Gh} (h : (E6 S g).Good) : ∃ x a n c er z0 z1 z2 r ow, S = S6 x a n c er z0 z1 z2 r ∧ g = [ow] ∧ q6 x a n c er ow = true ∧ E6 S g = .leaf .nrm (.sym (q6 x a n c er ow)) [(8, .one (.bool (.lit false))), (50, .agg [.str z0, .str z1, .str z2]), (51, .one (.int .i64 r))] ⟨[], [], 0⟩ [] := by
 unfold E6 at h ⊢
 split at h <;> try exact h.elim
 rename_i l hl
 have hS := vals6_eq hl
 split at h <;> try exact h.elim
 rename_i ow
 unfold E6v at h ⊢
 split at h <;> try exact h.elim
 split at h <;> try exact h.elim
 rename_i h1
 split at h <;> try exact h.elim
 rename_i x h2
 split at h <;> try exact h.elim
 rename_i p h3
 split at h <;> try exact h.elim
 rename_i er h4
 split at h <;> try exact h.elim
 rename_i z h5
 split at h <;> try exact h.elim
 rename_i r h6
 have hq : (SB.sym (q6 x p.1 p.2.1 p.2.2 er ow)).val = true := h
 rw [SB.val_sym] at hq
 refine ⟨x, p.1, p.2.1, p.2.2, er, z.1, z.2.1, z.2.2, r, ow, ?_, rfl, hq, ?_⟩
 · rw [hS, gF_eq h1, gStr_eq h2, gSl_eq h3, gSy_eq h4, gA3_eq h5, gIn_eq h6]
   rfl
 · rfl
def ks6 : List (Nat × Bool) := [(8, false), (12, false), (13, false), (15, true), (50, false), (51, false)]
theorem all_no {Φ : Ex → SB → SL → Mem → Gh → Prop} {b : Bool} {x y : RG} (hb : b = false) (h : AllW y Φ) : AllW (.br b x y) Φ := by
 subst hb
 exact ⟨⟨fun hh => Bool.noConfusion hh, fun _ => h.h⟩⟩
theorem all_leaf {Φ : Ex → SB → SL → Mem → Gh → Prop} {e : Ex} {vc : SB} {s : SL} {m : Mem} {g : Gh} (h : Φ e vc s m g) : AllW (.leaf e vc s m g) Φ := ⟨h⟩
theorem tail6_ok (W : World) : CustOk (Bs.of W) Tryz.prog 70 tl6 (custZ ks6 E6) := by
 refine custZ_ok rfl fun S g f a w hgood hst => ?_
 obtain ⟨x, sa, n, c, er, z0, z1, z2, r, ow, rfl, rfl, hc, e⟩ := E6_good hgood
 rw [e]
 clear e hgood
 have hQ := @of_decide_eq_true _ (Classical.propDecidable _) hc
 have hown := hst.gh.own 0 ow rfl
 have hv : b6 w x sa n er = false ∧ d6 w sa n c er = true := by
  unfold b6 d6
  cases he : er == 0
  · exact ⟨rfl, rfl⟩
  · obtain ⟨h1, h2, h3⟩ := hQ (by simpa using he)
    have hrow := ownQ_row h1 hown
    have hp := rowP_of (c := c) hrow h2
    have e : fmtB w sa n = x := by rw [fmtB_row hrow, h3]
    rw [e, sEq_self]
    exact ⟨rfl, @decide_eq_true _ (Classical.propDecidable _) hp⟩
 refine tail0_wp (t := .plain) (n := 100000) hst rfl (gokF6 w) ⟨trivial⟩ ?_
 show AllW (y6 w x sa n c er z0 z1 z2 r) _
 rw [y6_b]
 refine all_no hv.1 ?_
 rw [z6_l, hv.2]
 refine all_leaf ⟨rfl, fun f2 a2 w2 e' he' h6 => ⟨he', f2, h6.fewer fun k' v' hk => ?_⟩⟩
 rw [look_cons] at hk
 split at hk
 · rename_i e
   subst e
   rw [z6_8]
   exact hk
 rw [look_cons] at hk
 split at hk
 · rename_i e
   subst e
   rw [z6_50]
   exact hk
 rw [look_cons] at hk
 split at hk
 · rename_i e
   subst e
   rw [z6_51]
   exact hk
 · simp [Sx.look] at hk
noncomputable def t6r (W : World) : HG := .seq .plain (.seq .plain (.seq (.block (.seq .plain (.seq (.cust (runCalls Tryz.prog W (GF6 W) 100000 70 op6 [⟨1, parG paD (fun t => lim3 t && gMax W) 55 56⟩] 0)) (.cust (custZ ks6 E6))))) .plain))
noncomputable def t6o (W : World) : HG := .seq (.seq .plain (.block (.cust (loopU Tryz.prog W (GF6 W) 100000 70 (t6r W) lp6 4)))) .plain
def S6o (s : ByteArray) (v : Int) (t : ByteArray) (k : Int) : SL := [(0, .one (.str s)), (3, .one (.int .u8 (.sym v))), (8, .one (.bool (.lit false))), (9, .one (.str t)), (10, .one (.int .i64 (.sym k)))]
noncomputable def y6o (W : World) (s : ByteArray) (v : Int) (t : ByteArray) (k : Int) : RG := runG Tryz.prog W (GF6 W) 100000 70 (t6o W) la6 (S6o s v t k) ⟨[], [], 0⟩ []
noncomputable def s6o (W : World) (s : ByteArray) (v : Int) (t : ByteArray) (k : Int) : RG := (y6o W s v t k).slim 0 [] [] [(8, false)] []
noncomputable def R6 (W : World) (x : ByteArray) (a : Option Addr) (c : Nat) : Bool := (lim3 x && gMax W) && q6 x a (paD x).l.length c (paD x).er ⟨34, 17, a, (paD x).l.length, c, cellsL (paD x).l⟩
def u6 (v : Int) (t : ByteArray) (k : Int) : ByteArray := catB (catB (ext0 t k) (strB [v])) (ext1 t (mn4 t k))
noncomputable def c6o (W : World) (s : ByteArray) (v : Int) (t : ByteArray) (k : Int) (a1 a2 a3 : Option Addr) (c1 c2 c3 : Nat) : Bool :=
 ((inT t k && (le9 ((ext0 t k).size + (strB [v]).size) && (inT t (mn4 t k) && le9 ((catB (ext0 t k) (strB [v])).size + (ext1 t (mn4 t k)).size)))) && (R6 W s a1 c1 && (R6 W t a2 c2 && R6 W (u6 v t k) a3 c3))) && gMax W
theorem s6o_eq (W : World) (s : ByteArray) (v : Int) (t : ByteArray) (k : Int) : s6o W s v t k = .any fun a1 c1 => .any fun a2 c2 => .any fun a3 c3 => LB8 (.sym (c6o W s v t k a1 a2 a3 c1 c2 c3)) true [] := by kernel_rfl
theorem fmtT_of {t : ByteArray} {l : List Rq} (h : D t = fmtL l) : fmtT l = t := D_inj (by rw [D_fmtT, h])
theorem pv_fmtL {l l' : List Rq} (h : l.map Rq.pv = l'.map Rq.pv) : fmtL l = fmtL l' := by
 have e : ∀ l : List Rq, fmtL l = (l.map Rq.pv).flatMap fun p => D p.txt ++ [10] := fun l => by unfold fmtL; rw [List.flatMap_map]
 rw [e, e, h]
theorem R6_ok {W : World} {x : ByteArray} (hx : x.size ≤ 3000000000) (hm : gMax W = true) (a : Option Addr) (c : Nat) : R6 W x a c = true := by
 unfold R6 q6
 rw [lim3_ok hx, hm]
 refine @decide_eq_true _ (Classical.propDecidable _) fun he => ?_
 obtain ⟨h1, _, h3⟩ := paD_back he
 refine ⟨ownQ_cells _ _ _, ?_, ?_⟩
 · refine ⟨?_, ?_⟩
   · rw [pv_fmtL (unC_pv _), ← h1, D_len]
     exact hx
   · intro q hq
     obtain ⟨r, hr, e⟩ := List.mem_map.1 ((unC_pv (paD x).l) ▸ List.mem_map.2 ⟨q, hq, rfl⟩ : q.pv ∈ (paD x).l.map Rq.pv)
     rw [← e]
     have hv := h3 r hr
     unfold rngP
     rw [show r.pv.a = r.a from rfl, show r.pv.d = r.d from rfl, decide_eq_true hv.a1, decide_eq_true hv.a2, decide_eq_true hv.d1, decide_eq_true hv.d2]
     rfl
 · exact fmtT_of (by rw [pv_fmtL (unC_pv _), h1])
theorem c6o_ok {W : World} {s : ByteArray} {v : Int} {t : ByteArray} {k : Int} (h : Q4 W s t k) (a1 a2 a3 : Option Addr) (c1 c2 c3 : Nat) : c6o W s v t k a1 a2 a3 c1 c2 c3 = true := by
 obtain ⟨hs, ht, h0, h1, hg⟩ := h
 obtain ⟨h2, h3⟩ := mn4_in h0 h1 ht
 have e0 := ext0_size h1
 have e2 : (ext1 t (mn4 t k)).size = t.size - (mn4 t k).toNat := ext1_size
 have eb := strB1_size v
 have ec := catB_size (ext0 t k) (strB [v])
 unfold c6o
 rw [hg, inT_ok h0 h1, inT_ok h2 h3, le9_ok (n := (ext0 t k).size + (strB [v]).size) (by omega), le9_ok (n := (catB (ext0 t k) (strB [v])).size + (ext1 t (mn4 t k)).size) (by omega), R6_ok (x := s) (by omega) hg, R6_ok (x := t) (by omega) hg, R6_ok (x := u6 v t k) (by unfold u6; rw [catB_size]; omega) hg]
 rfl
theorem hg6r (W : World) : HGW (Bs.of W) Tryz.prog 70 (t6r W) lp6 := by
 obtain ⟨e, he⟩ : ∃ e : Code × Code × Nat × Code × Nat × Code, lp6 = .seq e.1 (.seq e.2.1 (.seq (.block e.2.2.1 (.seq e.2.2.2.1 (.seq (.region e.2.2.2.2.1 op6 false) tl6))) e.2.2.2.2.2)) :=
  ⟨match lp6 with | .seq x1 (.seq x2 (.seq (.block i (.seq x3 (.seq (.region j _ _) _))) x4)) => (x1, x2, i, x3, j, x4) | _ => (.skip, .skip, 0, .skip, 0, .skip), by kernel_rfl⟩
 constructor
 rw [he]
 refine ⟨trivial, trivial, ⟨trivial, ?_, tail6_ok W⟩, trivial⟩
 refine calls_cust (gokF6 _) (fun c hc => ?_) (by simp)
 rw [List.mem_singleton] at hc
 subst hc
 refine callG_of (o := op6[1]!) (by kernel_rfl) (by kernel_rfl) (parG_ok (gf := 13) (by kernel_rfl) (by kernel_rfl) (by decide) ⟨_, Tryz.func13, by kernel_rfl, by kernel_rfl⟩ fun t w ht ho => ?_)
 rw [Bool.and_eq_true] at ht
 exact parse13_calls ht.1 (gMax_old ht.2 ho)
theorem hg6o (W : World) : HGW (Bs.of W) Tryz.prog 70 (t6o W) la6 := by
 obtain ⟨e, he⟩ : ∃ e : Code × Nat × Code, la6 = .seq (.seq e.1 (.block e.2.1 (.loop lp6))) e.2.2 :=
  ⟨match la6 with | .seq (.seq x1 (.block i (.loop _))) x2 => (x1, i, x2) | _ => (.skip, 0, .skip), by kernel_rfl⟩
 constructor
 rw [he]
 exact ⟨⟨trivial, loopU_ok (gokF6 W) (hg6r W) 4⟩, trivial⟩
noncomputable def E6o (W : World) (S : SL) (_ : Gh) : RG := match S with
 | [(0, .one (.str s)), (3, .one (.int .u8 (.sym _))), (8, .one (.bool (.lit false))), (9, .one (.str t)), (10, .one (.int .i64 (.sym k)))] => .leaf .ret (.sym (q4 W s t k)) [(8, .one (.bool (.lit true)))] ⟨[], [], 0⟩ []
 | _ => .fail
theorem tail6o_ok (W : World) : CustOk (Bs.of W) Tryz.prog 70 la6 (custZ [(0, false), (3, false), (8, false), (9, false), (10, true)] (E6o W)) := by
 refine custZ_ok rfl fun S g f a w hgood hst => ?_
 unfold E6o at hgood ⊢
 split at hgood <;> try exact hgood.elim
 rename_i s v t k
 have hc : q4 W s t k = true := by
  have h0 : (SB.sym (q4 W s t k)).val = true := hgood
  rw [SB.val_sym] at h0
  exact h0
 have hQ := @of_decide_eq_true _ (Classical.propDecidable _) hc
 have hQ' : Q4 w s t k := ⟨hQ.hs, hQ.ht, hQ.k0, hQ.k1, gMax_old hQ.g hst.old⟩
 refine tail0s_wp (t := t6o w) (n := 100000) (ks := []) (ke := [(8, false)]) hst rfl (gokF6 w) (hg6o w) ?_
 show AllW (s6o w s v t k) _
 rw [s6o_eq]
 refine ⟨fun a1 c1 a2 c2 a3 c3 => ⟨by rw [SB.val_sym]; exact c6o_ok hQ' .., fun f2 a2 w2 e' he' h6 => ⟨he', f2, h6⟩⟩⟩
noncomputable def opF6 : Array Oper := match bodyOf Tryz.f6 with
 | .seq _ (.seq _ (.seq (.region _ o _) _)) => o
 | _ => #[]
noncomputable def tF6 (W : World) : HG := .seq .plain (.seq .plain (.seq (.cust (runCalls Tryz.prog W (GF6 W) 100000 70 opF6 [⟨1, madG W 25 26⟩, ⟨2, fmtG 26 27 0⟩] 0)) (.seq .plain (.cust (custZ [(0, false), (3, false), (8, false), (9, false), (10, true)] (E6o W))))))
noncomputable def xF6 (W : World) (s : ByteArray) (a : Option Addr) (n c : Nat) (i v : Int) : RG := runG Tryz.prog W (GF6 W) 100000 70 (tF6 W) (bodyOf Tryz.f6) (argSlots 0 [.one (.str s), .one (.sl a n c), .one (.int .i64 (.sym i)), .one (.int .u8 (.sym v))]) noMem []
noncomputable def sF6 (W : World) (s : ByteArray) (a : Option Addr) (n c : Nat) (i v : Int) : RG := (xF6 W s a n c i v).slim 0 [] [] [(8, false)] []
theorem sF6_eq (W : World) (s : ByteArray) (a : Option Addr) (n c : Nat) (i v : Int) : sF6 W s a n c i v = .br (limF4 s n) (LB8 (.sym (gMax W)) true []) (.pick (⟨[], by simp, by simp⟩ : MadeL) fun l => .any fun a1 c1 => LB8 (.sym (cF4 W s a n c i l.1 a1 c1)) true []) := by kernel_rfl
theorem hgF6 (W : World) : HGW (Bs.of W) Tryz.prog 70 (tF6 W) (bodyOf Tryz.f6) := by
 obtain ⟨e, he⟩ : ∃ e : Code × Code × Nat × Code, bodyOf Tryz.f6 = .seq e.1 (.seq e.2.1 (.seq (.region e.2.2.1 opF6 false) (.seq e.2.2.2 la6))) :=
  ⟨match bodyOf Tryz.f6 with | .seq x1 (.seq x2 (.seq (.region i _ _) (.seq x3 _))) => (x1, x2, i, x3) | _ => (.skip, .skip, 0, .skip), by kernel_rfl⟩
 constructor
 rw [he]
 refine ⟨trivial, trivial, ?_, trivial, tail6o_ok W⟩
 refine calls_cust (gokF6 _) (fun c hc => ?_) (by simp)
 simp only [List.mem_cons, List.not_mem_nil, or_false] at hc
 rcases hc with rfl | rfl
 · exact callG_of (o := opF6[1]!) (by kernel_rfl) (by kernel_rfl) (madG_ok (by kernel_rfl) (by kernel_rfl) (by decide))
 · exact callG_of (o := opF6[2]!) (by kernel_rfl) (by kernel_rfl) (fmtG_ok (gf := 10) (by kernel_rfl) (by kernel_rfl) (by decide) ⟨_, Tryz.func10, by kernel_rfl, by kernel_rfl⟩ fun w a n c h => fmt10_calls h)
theorem law6_calls {W : World} {s : ByteArray} {a : Option Addr} {n c : Nat} {i v : Int} (hs : limF4 s n = false → RowOk W .i64 a n c) (hm : gMax W = true) : Calls Tryz.prog 6 #[.string s, .slice a n c, .int .i64 i, .int .u8 v] W fun en w' => en = .returned (.bool true) ∧ Below W.heap.size W w' := by
 have hn : Tryz.f6.ntmps = 70 := by kernel_rfl
 have hcalls := calls_of_runG (gokF6 W) (n := 100000) (g := 6) Tryz.func6 (show Tryz.f6.body = some (bodyOf Tryz.f6) by kernel_rfl) (t := tF6 W) (args := [.one (.str s), .one (.sl a n c), .one (.int .i64 (.sym i)), .one (.int .u8 (.sym v))]) (by rw [hn]; exact (hgF6 W).h) (by rw [hn]; simp)
  (R := fun v _ => ∃ q, v = .one (.bool q) ∧ q.val = true) (N := 0) (ks := []) (bs := []) (ke := [(8, false)]) (be := []) rfl rfl ?_
 · refine hcalls.mono ?_
   rintro en w' ⟨v, g, f, ⟨q, rfl, hq⟩, rfl, _, hb⟩
   refine ⟨?_, hb⟩
   rw [← hq]
   rfl
 · rw [hn]
   show (sF6 W s a n c i v).All _
   rw [sF6_eq]
   refine ⟨fun _ => ?_, fun h0 => ?_⟩
   · exact ⟨by rw [SB.val_sym]; exact hm, .inr rfl, [(false, [.bool (.lit true)])], _, by kernel_rfl, rfl, _, rfl, rfl⟩
   · intro l a1 c1
     refine ⟨?_, .inr rfl, [(false, [.bool (.lit true)])], _, by kernel_rfl, rfl, _, rfl, rfl⟩
     rw [SB.val_sym]
     have h500 : s.size ≤ 500 := by
      unfold limF4 at h0
      cases hd : decide ((s.size : Int) > 500)
      · have := of_decide_eq_false hd
        omega
      · rw [hd] at h0
        cases h0
     exact cF4_ok h500 (hs h0) hm l a1 c1
end Go.Proofs.YtjmnolhkkpaodaaGreatDoor
namespace Go.Proofs.YtjmnolhkkpaodaaGreatDoor
open Go Go.Sx Go.RowKit Go.ChangeShapes Go.WideShapes Go.ChangeAt Go.Deep
set_option maxRecDepth 100000
def laidL : List (String × DataW Unit) := [("unicode/utf8.acceptRanges", Rows.laid_unicode_utf8_acceptRanges), ("unicode/utf8.first", Rows.laid_unicode_utf8_first)]
theorem gMax_of {w : World} (h : w.ShapedOpen Tryz.prog) : gMax w = true := by
 have h0 : ∃ zero, ((begin Tryz.prog (fun _ _ => 0) default).world.heap[0]?).bind Obj.row? = some (zero, 3) ∧ zero.size = 1 := ⟨#[.int .i64 0], by kernel_rfl, rfl⟩
 obtain ⟨zero, h1, h2⟩ := h0
 obtain ⟨cs, hh, hs, hr⟩ := h.1 0 zero 3 (of_decide_eq_true (by kernel_rfl)) h1
 obtain ⟨ts, hts, _, hall⟩ := hr (by kernel_rfl)
 have hts' : Tryz.prog.cellTypes Tryz.prog.depth 3 = some [3] := by kernel_rfl
 rw [hts', Option.some.injEq] at hts
 subst hts
 have h3 : 0 < cs.size := by omega
 obtain ⟨u, hu, hok⟩ := hall 0 cs[0] (by simp [h3])
 have : u = 3 := by simpa using hu.symm
 subst this
 have hcell : w.cell? ⟨0, 0, none⟩ = some cs[0] := by simp [World.cell?, hh, h3]
 have hu3 : Tryz.prog.underlying 3 = some (.int .i64) := by kernel_rfl
 unfold Cell.ok at hok
 rw [hu3] at hok
 unfold gMax isInt
 rw [hcell]
 cases hv : cs[0] <;> rw [hv] at hok <;> first | (obtain ⟨rfl, _⟩ := hok; simp) | simp at hok
theorem law_stepS {C : Checked} {os : Os} {g : FuncId} {f : Func} {s : ChangeSpec} {H : Type} {enc : TypeId × Value → H} {X : World → Prop} (n : Nat)
  (own : ownKnob C.prog.godebug = none) (started : os.Started) (noInit : C.prog.inits.idxOf? g = none) (hfn : C.prog.funcs[g]? = some f)
  (hn : f.params.size = n) (fine : typesFine C.prog f = true) (hvars : s.vars = [])
  (hs : ∀ ds : List (DataW H), ds.length = n → s.fn H ds = { results := [.lit (.bool true)], args := ds })
  (witness : ∃ (w : World) (tape : Tape) (i : Input), w.os = os ∧ (w.forCall tape i).Shaped C.prog ∧ i.vars = [] ∧ Input.okWide C.prog (w.forCall tape i) .any w.heap.size g i ∧
   ((s.pre enc C.prog f [] false (w.forCall tape i).memory i.args ∧ X (w.forCall tape i).memory) ∧ sizedMet enc C.prog f (OpenSpec.ofChange s) false (w.forCall tape i).memory i.args) ∧ ({} : Assume).holds C.prog (lone (Frame.enter C.prog g i.args .normal) [] (w.forCall tape i)))
  (walk : ∀ (W : World) (base : Nat) (args : Array Value), W.ShapedOpen C.prog → (∀ (j : Nat) t v, f.params.toList[j]? = some t → args.toList[j]? = some v → Value.okWide C.prog W .any base t v) → args.toList.length = f.params.toList.length →
   ∀ (ds : List (DataW H)) (ps : List MemPlace), DataW.TrodAll enc C.prog W 0 (fun _ => true) true f.params.toList args.toList ds ps →
   Calls C.prog g args W fun e W' => e = .returned (.bool true) ∧ Below W.heap.size W W') :
  ReturnsInHanded {} C os g .any (fun w args => (s.pre enc C.prog f [] false w args ∧ X w) ∧ sizedMet enc C.prog f (OpenSpec.ofChange s) false w args) (s.post enc C.prog f false true false false) := by
 simp only [typesFine, Bool.and_eq_true, List.all_eq_true, decide_eq_true_eq] at fine
 obtain ⟨⟨hl, hts⟩, hres⟩ := fine
 refine returnsInHanded_of_calls own started noInit witness ?_
 intro w tape i _ hshape _ hok hpre _
 obtain ⟨_, _, _, fn', hfn', _, _, _, _, hval⟩ := hok
 obtain rfl : fn' = f := Option.some.inj (hfn'.symm.trans hfn)
 obtain ⟨⟨⟨ds, gs, before, hw, _⟩, _⟩, _⟩ := hpre
 have hW := DataW.Whole.of_heap (w' := w.forCall tape i) (by rfl) hw
 have hW' := hW
 obtain ⟨p, q, hA, hV, rfl, hfz, hnd⟩ := hW
 rw [hvars] at hV
 obtain ⟨rfl, rfl⟩ := trodVars_none hV
 have hlen := trodAll_length _ _ _ _ hA
 have hdn : ds.length = n := by rw [hlen.2, ← hn]; simp
 have hcalls := walk (w.forCall tape i) w.heap.size i.args hshape (fun j t v hj hv => hval j t v (by simpa using hj) (by simpa using hv)) hlen.1 ds p hA
 refine hcalls.mono fun e W' ⟨he, hb⟩ => ?_
 subst he
 refine ChangeSpec.post_blind ⟨ds, [], p ++ [], [], p, [], hW', ?_, ?_, ?_, hb.frame _, fun h => by cases h⟩
 · rw [List.append_nil, hs ds hdn]
   split at hres
   · next t ht =>
     split at hres
     · next hu =>
       have hsz : fn'.resultTypes.size = 1 := by
        have := congrArg List.length ht
        simpa using this
       rw [ht, hsz]
       exact trodAll_cons_mk (shut_bool hu true) trodAll_mk0
     · exact absurd hres (by decide)
   · exact absurd hres (by decide)
 · rw [List.append_nil, hs ds hdn]
   exact trodAll_below hl hb _ _ _ _ (fun t ht => by simpa using hts t ht) hA fun x hx => hW'.lt x (by simpa using hx)
 · rw [hvars, List.append_nil, hs ds hdn]
   trivial
theorem own : ownKnob Tryz.prog.godebug = none := by kernel_rfl
theorem laid_met (os : Os) (args : Array Value) : laidMetH Tryz.prog laidL ((World.laidAll Tryz.prog os laidL).forCall (fun _ _ => 0) ⟨#[], args, []⟩).memory := by
 rw [MakeChecks.laidMetH_plain _ _ _ (by kernel_rfl)]
 exact laidMet_laidAll _ (by kernel_rfl) (by kernel_rfl)
theorem ok_int {W : World} {r : Reach} {base : Nat} {t : TypeId} {k : IntKind} {v : Value} (ht : Tryz.prog.underlying t = some (.int k)) (h : Value.okWide Tryz.prog W r base t v) : ∃ n, v = .int k n ∧ k.min ≤ n ∧ n ≤ k.max := by
 have hf : (CSh.int k).fits Tryz.prog t = true := by
  unfold CSh.fits
  rw [ht]
  exact decide_eq_true rfl
 have h' : Cell.okWide Tryz.prog W r base t v := by
  unfold Value.okWide at h
  rw [ht] at h
  exact h
 rcases cell_one hf h' with ⟨k', n, h1 | h1, h2, h3, h4⟩ | ⟨b, h1 | h1, h2⟩
 · cases h1
   exact ⟨n, h2, h3, h4⟩
 · cases h1
 · cases h1
 · cases h1
theorem ok_str {W : World} {r : Reach} {base : Nat} {t : TypeId} {v : Value} (ht : Tryz.prog.underlying t = some .string) (h : Value.okWide Tryz.prog W r base t v) : ∃ s, v = .string s := by
 unfold Value.okWide Cell.okWide Cell.ok at h
 rw [ht] at h
 cases v <;> try exact h.elim
 exact ⟨_, rfl⟩
theorem ok_ints {H : Type} {enc : TypeId × Value → H} {W : World} {r : Reach} {base : Nat} {v : Value} (h : Value.okWide Tryz.prog W r base 23 v) {d : DataW H} {ps : List MemPlace} (hd : DataW.Trod enc Tryz.prog W 0 (fun _ => true) true 23 v d ps) : ∃ a n c, v = .slice a n c ∧ RowOk W .i64 a n c := by
 obtain ⟨h1, h2, _⟩ := args_open (P := Tryz.prog) (r := r) (base := base) [23] [.ints .i64] [v] [] (by kernel_rfl) rfl
  (fun j t u ht hu => by
   match j, ht, hu with
   | 0, ht, hu => cases ht; cases hu; exact h)
  (fun j t u ht hu => by
   match j, ht, hu with
   | 0, ht, hu => cases ht; cases hu; exact ⟨d, ps, hd⟩)
 exact ⟨_, _, _, by simpa [argsTV, TV.den, SV.den] using h1, h2⟩
end Go.Proofs.YtjmnolhkkpaodaaGreatDoor
