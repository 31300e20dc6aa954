/- A part of the proof: the reference is safe, both packages write and read alike. Several texts in one; printed by slim28.py out of the texts of wip. -/
import Derived.Test.YtjmnolhkkpaodaaGreatDoorZ34
set_option linter.all false
namespace Go.Proofs.YtjmnolhkkpaodaaGreatDoor
open Go Go.Sx Go.RowKit
set_option maxRecDepth 100000
noncomputable def ops19 (k : Nat) : Array Oper := match k, bodyOf Tryz.f19 with
 | 1, .seq _ (.seq (.region _ o _) _) => o
 | 2, .seq _ (.seq _ (.seq (.region _ o _) _)) => o
 | 3, .seq _ (.seq _ (.seq _ (.seq (.region _ o _) _))) => o
 | _, _ => #[]
noncomputable def op19 (k i : Nat) : Oper := match (ops19 k).toList[i]? with
 | some o => o
 | none => { dst := none, op := .move (.const (.bool true)), type := 0, pos := "", after := #[], guard := none }
def B19 (st x d : Int) (b : FBw) : List (Nat × BI) := [(0, ⟨34, pinsA st x d b, true⟩)]
def hiB (x : Int) : Int := IntKind.u8.wrap (gshr .u16 x 8)
def loB (x : Int) : Int := IntKind.u8.wrap x
def isOwn (a : Option Addr) (n c : Nat) (ow : Own) : Bool := (Nat.beq ow.e 5 && Nat.beq ow.size 1) && (decide (a = ow.a) && (decide (n = ow.n) && decide (c = ow.c)))
theorem isOwn_ok {a : Option Addr} {n c : Nat} {ow : Own} (h : isOwn a n c ow = true) : ow = ⟨5, 1, a, n, c, ow.xs⟩ := by
 obtain ⟨e, size, a', n', c', xs⟩ := ow
 simp only [isOwn, Bool.and_eq_true, Nat.beq_eq, decide_eq_true_eq] at h
 obtain ⟨⟨rfl, rfl⟩, rfl, rfl, rfl⟩ := h
 rfl
noncomputable def E2 (st x d : Int) (b : FBw) (S : SL) (Bl : List (Nat × BI)) (g : Gh) : RG := match S, g with
 | [(0, .one (.sl sa sn sc)), (3, v3)], [ow] => .any fun a' c' => .leaf .nrm (.sym ((isOwn sa sn sc ow && decide (ow.n + 4 ≤ 4000000000)) && (sameTV v3 (.one (.ptr 0 0)) && sameB Bl (B19 st x d b)))) [(0, .one (.sl a' (ow.n + 2 + 2) c')), (3, .one (.ptr 0 0))] ⟨[], B19 st x d b, 1⟩ [⟨5, 1, a', ow.n + 2 + 2, c', ow.xs ++ hexL (hiB x) ++ hexL (loB x)⟩]
 | _, _ => .fail
theorem take2 (W : World) (st x d : Int) (b : FBw) (a : Option Addr) (n c : Nat) : (takes Tryz.prog W 44 (ops19 2) ⟨[], B19 st x d b, 1⟩ [0, 1, 2, 3, 4, 6, 7, 8] (Array.replicate 11 false) [(0, .one (.sl a n c)), (3, .one (.ptr 0 0))]).map (fun p => (p.1.toList, Sx.look p.2 13, Sx.look p.2 17, Sx.look p.2 21, Sx.look p.2 3)) =
  some ([true, true, true, true, true, false, true, true, true, false, false], some (.one (.sl a n c)), some (.one (.int .u8 (.sym (hiB x)))), some (.one (.int .u8 (.sym (loB x)))), some (.one (.ptr 0 0))) := by kernel_rfl
theorem take2b (W : World) (st x d : Int) (b : FBw) (a : Option Addr) (n c : Nat) : (takes Tryz.prog W 44 (ops19 2) ⟨[], B19 st x d b, 1⟩ [10] #[true, true, true, true, true, true, true, true, true, true, false] [(22, .one (.sl a n c)), (3, .one (.ptr 0 0))]).map (fun p => (p.1.toList, Sx.look p.2 0, Sx.look p.2 3)) =
  some ([true, true, true, true, true, true, true, true, true, true, true], some (.one (.sl a n c)), some (.one (.ptr 0 0))) := by kernel_rfl
theorem hiB_rng (x : Int) : 0 ≤ hiB x ∧ hiB x ≤ 255 := wrap_within .u8 _
theorem loB_rng (x : Int) : 0 ≤ loB x ∧ loB x ≤ 255 := wrap_within .u8 _
theorem arr_of_toList {α : Type} {a : Array α} {l : List α} (h : a.toList = l) : a = l.toArray := by rw [← h]
theorem f2_ok (W : Bs) (st x d : Int) (b : FBw) : CustOk W Tryz.prog 44 (.region 2 (ops19 2) true) (custK [(0, false), (3, false)] [(0, false)] 1 (E2 st x d b)) := by
 refine custK_ok ?_
 intro S Bl g f a w hgood hst
 unfold E2 at hgood ⊢
 split at hgood <;> try exact hgood.elim
 rename_i sa sn sc v3 ow
 have hg0 := hgood none 0
 simp only [RG.Good, SB.val_sym, Bool.and_eq_true, decide_eq_true_eq] at hg0
 obtain ⟨⟨h1, h2⟩, h3, h4⟩ := hg0
 have e1 := isOwn_ok h1
 have e2 := sameTV_eq h3
 have e3 := sameB_eq h4
 subst e2 e3
 generalize ow.xs = xs at e1
 subst e1
 simp only at h2
 have hr : ∀ l, Region.ready .any (ops19 2) l = Region.ready .any (ops19 2) l := fun _ => rfl
 refine wp_region_held (S := HoldS W ⟨[], B19 st x d b, 1⟩ f) (by kernel_rfl) ?_
 rw [show (ops19 2).size = (0 + 1 + 1 + 1) + ([0, 1, 2, 3, 4, 6, 7, 8] : List Nat).length by kernel_rfl]
 obtain ⟨⟨l1, s1⟩, ht, hp⟩ := Option.map_eq_some_iff.1 (take2 W.W st x d b sa sn sc)
 simp only [Prod.mk.injEq] at hp
 obtain ⟨hl, k1, k2, k3, k4⟩ := hp
 have hl := arr_of_toList hl
 subst hl
 refine takes_ok (by kernel_rfl) (fun c a w => gpost_panic) (by rw [show Array.replicate (0 + 1 + 1 + 1 + ([0, 1, 2, 3, 4, 6, 7, 8] : List Nat).length) false = Array.replicate 11 false from rfl]; exact ht) hst.drew' ?_
 intro a1 h5
 refine held_op (i := 5) (o := op19 2 5) (by kernel_rfl) (by kernel_rfl) (wanted_none (by kernel_rfl)) ?_
 refine growC_wp (gf := 43) (ys := [.tmp 13, .tmp 17]) (i := 0) (d := 18) (x := .one (.int .u8 (.sym (hiB x)))) (l := hexL (hiB x)) (by kernel_rfl) (by kernel_rfl) (by decide) (by simp only [evalList, evalO, k1, k2]) (hex_grow (hiB_rng x)) rfl rfl rfl (by show sn + 2 ≤ 4000000000; omega) h5 ?_
 intro a2 c2 u2 w2 h6
 refine ⟨h6.hold, ?_⟩
 have h7 := h6.fewer (s' := [(18, .one (.sl a2 (sn + 2) c2)), (21, .one (.int .u8 (.sym (loB x)))), (3, .one (.ptr 0 0))]) (by
  intro t v hv
  simp only [putS, look_cons] at hv ⊢
  split at hv
  · rename_i hh
    subst hh
    exact hv
  · split at hv
    · rename_i hh
      subst hh
      rw [if_neg (by decide), k3]
      exact hv
    · split at hv
      · rename_i hh
        subst hh
        rw [if_neg (by decide), k4]
        exact hv
      · simp [Sx.look] at hv)
 refine held_op (i := 9) (o := op19 2 9) (by kernel_rfl) (by kernel_rfl) (wanted_none (by kernel_rfl)) ?_
 refine growC_wp (gf := 43) (ys := [.tmp 18, .tmp 21]) (i := 0) (d := 22) (x := .one (.int .u8 (.sym (loB x)))) (l := hexL (loB x)) (ow := ⟨5, 1, a2, sn + 2, c2, xs ++ hexL (hiB x)⟩) (by kernel_rfl) (by kernel_rfl) (by decide) rfl (hex_grow (loB_rng x)) rfl rfl rfl (by show sn + 2 + 2 ≤ 4000000000; omega) h7 ?_
 intro a3 c3 u3 w3 h8
 refine ⟨h8.hold, ?_⟩
 have h9w := h8.fewer (s' := [(22, .one (.sl a3 (sn + 2 + 2) c3)), (3, .one (.ptr 0 0))]) (by
  intro t v hv
  simp only [putS, look_cons] at hv ⊢
  split at hv
  · rename_i hh
    subst hh
    exact hv
  · split at hv
    · rename_i hh
      subst hh
      exact hv
    · simp [Sx.look] at hv)
 obtain ⟨⟨l4, s4⟩, ht4, hp4⟩ := Option.map_eq_some_iff.1 (take2b W.W st x d b a3 (sn + 2 + 2) c3)
 simp only [Prod.mk.injEq] at hp4
 obtain ⟨hl4, j1, j2⟩ := hp4
 have hl4 := arr_of_toList hl4
 subst hl4
 refine takes_ok (L := [10]) (by kernel_rfl) (fun c a w => gpost_panic) ht4 h9w ?_
 intro a4 h10w
 refine wpAnyH_done (by kernel_rfl) ?_ _
 refine ⟨a3, c3, rfl, f, h10w.fewer ?_⟩
 intro t v hv
 simp only [look_cons] at hv
 split at hv
 · rename_i hh
   subst hh
   rw [j1]
   exact hv
 · split at hv
   · rename_i hh
     subst hh
     rw [j2]
     exact hv
   · simp [Sx.look] at hv
end Go.Proofs.YtjmnolhkkpaodaaGreatDoor
namespace Go.Proofs.YtjmnolhkkpaodaaGreatDoor
open Go Go.Sx Go.RowKit
set_option maxRecDepth 100000
theorem bld_wp {W : Bs} {nt : Nat} {s : SL} {m : Mem} {g : Gh} {f : Nat → Nat} {a : Act} {w : World} {o : Oper} {d : Nat} {z : Int} (hdst : o.dst = some d) (hd : d < nt)
  (hpr : ∀ (S : Nat → Option TV) (C : Nat → Nat → Option SV) (K : Nat → Option BI), (prim Tryz.prog W.W o 0 S C K).get = some ⟨.lit true, .one (.row 0 0 1 1), [], some (5, [.int .u8 (.lit z)])⟩) (h : GSt W nt s m g f a w) {K : Act → World → Prop} {Q : Exit → Act → World → Prop}
  (hK : ∀ u, GSt W nt (putS (some d) (.one (.sl (some ⟨w.heap.size, 0, none⟩) 1 1)) s) m g f (a.put (some d) u) (w.alloc (.cells #[.int .u8 z] 5)) → K (a.put (some d) u) (w.alloc (.cells #[.int .u8 z] 5))) : o.wp Tryz.prog a w K Q := by
 obtain ⟨x, u, h4, h5, h6, _, _⟩ := prim_sound (nid := 0) (hpr (Sx.look s) m.get (Sx.look m.blks)) rfl h.slots h.mem.cell h.mem.blk h.old
 have hu : u = .slice (some ⟨w.heap.size, 0, none⟩) 1 1 := by
  rcases h6 with h6 | h6
  · cases h6
  · rw [h6]
    simp [TV.den, SV.den, updF]
 have hx : x = .value (.slice (some ⟨w.heap.size, 0, none⟩) 1 1) := by
  rcases h5 with rfl | ⟨_, h2⟩
  · rw [hu]
  · rw [hu] at h2
    cases h2
 subst hx
 refine wp_value (v := .slice (some ⟨w.heap.size, 0, none⟩) 1 1) h4 ?_
 rw [hdst]
 exact hK _ (h.call (below_alloc w _) hd (v := .one (.sl (some ⟨w.heap.size, 0, none⟩) 1 1)) rfl)
def blank : List SV := [.int .u8 (.sym 32)]
noncomputable def E3 (st x d : Int) (b : FBw) (S : SL) (Bl : List (Nat × BI)) (g : Gh) : RG := match S, g with
 | [(0, .one (.sl sa sn sc)), (3, v3)], [ow] => .any fun a' c' => .leaf .nrm (.sym ((isOwn sa sn sc ow && decide (ow.n + 3 ≤ 4000000000)) && (sameTV v3 (.one (.ptr 0 0)) && sameB Bl (B19 st x d b)))) [(0, .one (.sl a' (ow.n + 1 + 2) c')), (3, .one (.ptr 0 0))] ⟨[], B19 st x d b, 1⟩ [⟨5, 1, a', ow.n + 1 + 2, c', ow.xs ++ blank ++ hexL d⟩]
 | _, _ => .fail
theorem take3 (W : World) (st x d : Int) (b : FBw) (a : Option Addr) (n c : Nat) : (takes Tryz.prog W 44 (ops19 3) ⟨[], B19 st x d b, 1⟩ [0, 3, 4] (Array.replicate 7 false) [(0, .one (.sl a n c)), (3, .one (.ptr 0 0))]).map (fun p => (p.1.toList, Sx.look p.2 23, Sx.look p.2 27, Sx.look p.2 3)) =
  some ([true, false, false, true, true, false, false], some (.one (.sl a n c)), some (.one (.int .u8 (.sym d))), some (.one (.ptr 0 0))) := by kernel_rfl
theorem take3b (W : World) (st x d : Int) (b : FBw) (a : Option Addr) (n c : Nat) : (takes Tryz.prog W 44 (ops19 3) ⟨[], B19 st x d b, 1⟩ [6] #[true, true, true, true, true, true, false] [(28, .one (.sl a n c)), (3, .one (.ptr 0 0))]).map (fun p => (p.1.toList, Sx.look p.2 0, Sx.look p.2 3)) =
  some ([true, true, true, true, true, true, true], some (.one (.sl a n c)), some (.one (.ptr 0 0))) := by kernel_rfl
theorem f3_ok (W : Bs) (st x d : Int) (b : FBw) (hd : 0 ≤ d ∧ d ≤ 255) : CustOk W Tryz.prog 44 (.region 3 (ops19 3) true) (custK [(0, false), (3, false)] [(0, false)] 1 (E3 st x d b)) := by
 refine custK_ok ?_
 intro S Bl g f a w hgood hst
 unfold E3 at hgood ⊢
 split at hgood <;> try exact hgood.elim
 rename_i sa sn sc v3 ow
 have hg0 := hgood none 0
 simp only [RG.Good, SB.val_sym, Bool.and_eq_true, decide_eq_true_eq] at hg0
 obtain ⟨⟨h1, h2⟩, h3, h4⟩ := hg0
 have e1 := isOwn_ok h1
 have e2 := sameTV_eq h3
 have e3 := sameB_eq h4
 subst e2 e3
 generalize ow.xs = xs at e1
 subst e1
 simp only at h2
 refine wp_region_held (S := HoldS W ⟨[], B19 st x d b, 1⟩ f) (by kernel_rfl) ?_
 rw [show (ops19 3).size = (0 + 1 + 1 + 1 + 1) + ([0, 3, 4] : List Nat).length by kernel_rfl]
 obtain ⟨⟨l1, s1⟩, ht, hp⟩ := Option.map_eq_some_iff.1 (take3 W.W st x d b sa sn sc)
 simp only [Prod.mk.injEq] at hp
 obtain ⟨hl, k1, k2, k3⟩ := hp
 have hl := arr_of_toList hl
 subst hl
 refine takes_ok (by kernel_rfl) (fun c a w => gpost_panic) (by rw [show Array.replicate (0 + 1 + 1 + 1 + 1 + ([0, 3, 4] : List Nat).length) false = Array.replicate 7 false from rfl]; exact ht) hst.drew' ?_
 intro a1 h5
 generalize ({ w with drawn := w.drawn + 1 } : World) = w1 at h5
 refine held_op (i := 1) (o := op19 3 1) (by kernel_rfl) (by kernel_rfl) (wanted_none (by kernel_rfl)) ?_
 refine bld_wp (z := 32) (d := 24) (by kernel_rfl) (by decide) (fun S C K => by kernel_rfl) h5 ?_
 intro u1 h6
 refine ⟨h5.hold.alloc, ?_⟩
 refine held_op (i := 2) (o := op19 3 2) (by kernel_rfl) (by kernel_rfl) (wanted_none (by kernel_rfl)) ?_
 refine rowB_wp (sp := ⟨23, 24, 25, 0, 30, 30, 5⟩) (l := blank) (by kernel_rfl) (by decide) (ad := ⟨w1.heap.size, 0, none⟩) (xn := 1) (xc := 1) (sa := sa) (sn := sn) (sc := sc) (ow := ⟨5, 1, sa, sn, sc, xs⟩) ?_ ?_ rfl rfl rfl ?_ rfl rfl ?_ (by show sn + 1 ≤ 140737488355328; omega) h6 ?_
 · simp only [putS, look_cons]
   rw [if_neg (by decide), k1]
 · exact h6.slots 24 _ (by simp only [putS, look_cons]; rw [if_pos trivial]) (by simp)
 · exact cell_one_new w1 _ _
 · simp
 intro a2 c2 u2 w2 h7
 refine ⟨h7.hold, ?_⟩
 have h8 := h7.fewer (s' := [(25, .one (.sl a2 (sn + 1) c2)), (27, .one (.int .u8 (.sym d))), (3, .one (.ptr 0 0))]) (by
  intro t v hv
  simp only [putS, look_cons] at hv ⊢
  split at hv
  · rename_i hh
    subst hh
    exact hv
  · split at hv
    · rename_i hh
      subst hh
      rw [if_neg (by decide), if_neg (by decide), k2]
      exact hv
    · split at hv
      · rename_i hh
        subst hh
        rw [if_neg (by decide), if_neg (by decide), k3]
        exact hv
      · simp [Sx.look] at hv)
 refine held_op (i := 5) (o := op19 3 5) (by kernel_rfl) (by kernel_rfl) (wanted_none (by kernel_rfl)) ?_
 refine growC_wp (gf := 43) (ys := [.tmp 25, .tmp 27]) (i := 0) (d := 28) (x := .one (.int .u8 (.sym d))) (l := hexL d) (ow := ⟨5, 1, a2, sn + 1, c2, xs ++ blank⟩) (by kernel_rfl) (by kernel_rfl) (by decide) rfl (hex_grow hd) rfl rfl rfl (by show sn + 1 + 2 ≤ 4000000000; omega) h8 ?_
 intro a3 c3 u3 w3 h9w
 refine ⟨h9w.hold, ?_⟩
 have h10w := h9w.fewer (s' := [(28, .one (.sl a3 (sn + 1 + 2) c3)), (3, .one (.ptr 0 0))]) (by
  intro t v hv
  simp only [putS, look_cons] at hv ⊢
  split at hv
  · rename_i hh
    subst hh
    exact hv
  · split at hv
    · rename_i hh
      subst hh
      exact hv
    · simp [Sx.look] at hv)
 obtain ⟨⟨l4, s4⟩, ht4, hp4⟩ := Option.map_eq_some_iff.1 (take3b W.W st x d b a3 (sn + 1 + 2) c3)
 simp only [Prod.mk.injEq] at hp4
 obtain ⟨hl4, j1, j2⟩ := hp4
 have hl4 := arr_of_toList hl4
 subst hl4
 refine takes_ok (L := [6]) (by kernel_rfl) (fun c a w => gpost_panic) ht4 h10w ?_
 intro a4 h11
 refine wpAnyH_done (by kernel_rfl) ?_ _
 refine ⟨a3, c3, rfl, f, h11.fewer ?_⟩
 intro t v hv
 simp only [look_cons] at hv
 split at hv
 · rename_i hh
   subst hh
   rw [j1]
   exact hv
 · split at hv
   · rename_i hh
     subst hh
     rw [j2]
     exact hv
   · simp [Sx.look] at hv
noncomputable def lb19 : Code := match bodyOf Tryz.f19 with
 | .seq _ (.seq _ (.seq _ (.seq _ (.seq (.seq _ (.block _ (.loop b))) _)))) => b
 | _ => .skip
noncomputable def ops19b : Array Oper := match lb19 with
 | .seq _ (.seq _ (.seq (.block _ (.seq _ (.seq _ (.cond _ (.region _ o _) _)))) _)) => o
 | _ => #[]
def sp19b : StrSp := ⟨37, 40, 41, 0, 30, 9, 5⟩
noncomputable def tb19 (W : World) : HG := .seq .plain (.seq .plain (.seq (.block (.seq .plain (.seq .plain (.cond (.cust (runCalls Tryz.prog W [] 100000 44 ops19b [⟨4, growS sp19b⟩] 0)) .plain)))) .plain))
def arr44 : List SV := [.str (nmi 0), .ptr 0 3, .str (nmi 1), .ptr 0 4, .str (nmi 2), .ptr 0 5, .str (nmi 3), .ptr 0 6, .str (nmi 4), .ptr 0 7, .str (nmi 5), .ptr 0 8, .str (nmi 6), .ptr 0 9, .str (nmi 7), .ptr 0 10, .str (nmi 8), .ptr 0 11, .str (nmi 9), .ptr 0 12, .str (nmi 10), .ptr 0 13, .str (nmi 11), .ptr 0 14, .str (nmi 12), .ptr 0 15, .str (nmi 13), .ptr 0 16]
def SP19 (i : Nat) (a : Option Addr) (n c : Nat) : SL := [(0, .one (.sl a n c)), (29, .agg arr44), (30, .one (.int .i64 (.lit (i : Int))))]
def ks19 : List (Nat × Bool) := [(0, false), (29, false), (30, false)]
noncomputable def s19 (W : World) (st x d : Int) (b : FBw) (i : Nat) (a : Option Addr) (n c : Nat) (xs : List SV) : RG := (runG Tryz.prog W [] 100000 44 (tb19 W) lb19 (SP19 i a n c) ⟨[], B19 st x d b, 2⟩ [⟨5, 1, a, n, c, xs⟩]).slim 2 ks19 [(0, false)] [(0, false)] []
def sn19 (i : Nat) : ByteArray := catB spB (nmi i)
def cd19 (i : Nat) (a : Option Addr) (n c : Nat) : Bool := okz spB (nmi i) && ((decide (a = a) && (decide (n = n) && decide (c = c))) && decide (n + (sn19 i).size ≤ 140737488355328))
def lf19 (st x d : Int) (b : FBw) (i : Nat) (a : Option Addr) (n c : Nat) (xs : List SV) : RG := .br (b i) (.any fun a' c' => .leaf .nrm (.sym (cd19 i a n c)) (SP19 (i + 1) a' (n + (sn19 i).size) c') ⟨[], B19 st x d b, 2⟩ [⟨5, 1, a', n + (sn19 i).size, c', xs ++ encB (sn19 i)⟩])
 (.leaf .nrm (.lit true) (SP19 (i + 1) a n c) ⟨[], B19 st x d b, 2⟩ [⟨5, 1, a, n, c, xs⟩])
theorem s19_eq (W : World) (st x d : Int) (b : FBw) (a : Option Addr) (n c : Nat) (xs : List SV) : ∀ i, i < 14 → s19 W st x d b i a n c xs = lf19 st x d b i a n c xs
 | 0, _ => by kernel_rfl
 | 1, _ => by kernel_rfl
 | 2, _ => by kernel_rfl
 | 3, _ => by kernel_rfl
 | 4, _ => by kernel_rfl
 | 5, _ => by kernel_rfl
 | 6, _ => by kernel_rfl
 | 7, _ => by kernel_rfl
 | 8, _ => by kernel_rfl
 | 9, _ => by kernel_rfl
 | 10, _ => by kernel_rfl
 | 11, _ => by kernel_rfl
 | 12, _ => by kernel_rfl
 | 13, _ => by kernel_rfl
 | _ + 14, h => by omega
theorem s19_end (W : World) (st x d : Int) (b : FBw) (a : Option Addr) (n c : Nat) (xs : List SV) : s19 W st x d b 14 a n c xs = .leaf (.exit 0) (.lit true) [(0, .one (.sl a n c))] ⟨[], [], 2⟩ [⟨5, 1, a, n, c, xs⟩] := by kernel_rfl
end Go.Proofs.YtjmnolhkkpaodaaGreatDoor
namespace Go.Proofs.YtjmnolhkkpaodaaGreatDoor
open Go Go.Sx Go.RowKit
set_option maxRecDepth 100000
theorem dig_enc : ∀ n : Nat, n < 16 → encB (digs.extract n (n + 1)) = [.int .u8 (.sym (byteAt digs (n : Int)))]
 | 0, _ => by kernel_rfl
 | 1, _ => by kernel_rfl
 | 2, _ => by kernel_rfl
 | 3, _ => by kernel_rfl
 | 4, _ => by kernel_rfl
 | 5, _ => by kernel_rfl
 | 6, _ => by kernel_rfl
 | 7, _ => by kernel_rfl
 | 8, _ => by kernel_rfl
 | 9, _ => by kernel_rfl
 | 10, _ => by kernel_rfl
 | 11, _ => by kernel_rfl
 | 12, _ => by kernel_rfl
 | 13, _ => by kernel_rfl
 | 14, _ => by kernel_rfl
 | 15, _ => by kernel_rfl
 | _ + 16, h => by omega
theorem digB_enc (v k : Int) : encB (digB v k) = [.int .u8 (.sym (byteAt digs (nib v k)))] := by
 have h := nib_rng v k
 unfold digB
 rw [gadd1' h]
 obtain ⟨n, hn⟩ : ∃ n : Nat, nib v k = n := ⟨(nib v k).toNat, by omega⟩
 rw [hn, show ((n : Int) + 1).toNat = n + 1 by omega, Int.toNat_natCast]
 exact dig_enc n (by omega)
theorem encB_emp : encB emp = [] := rfl
theorem encB_sp : encB spB = blank := rfl
theorem i64_shr (v : Int) : gshr .i64 v 12 = v / 4096 ∧ gshr .i64 v 8 = v / 256 ∧ gshr .i64 v 4 = v / 16 ∧ gshr .i64 v 0 = v := by
 refine ⟨Int.fdiv_eq_ediv_of_nonneg _ (by decide), Int.fdiv_eq_ediv_of_nonneg _ (by decide), Int.fdiv_eq_ediv_of_nonneg _ (by decide), ?_⟩
 have : gshr .i64 v 0 = v / 1 := Int.fdiv_eq_ediv_of_nonneg _ (by decide)
 rw [this, Int.ediv_one]
theorem wrap_small' {x : Int} (h : 0 ≤ x ∧ x ≤ 65535) : IntKind.i64.wrap x = x := by
 rw [IntKind.wrap_i64]
 omega
theorem hex2_enc {d : Int} (h : 0 ≤ d ∧ d ≤ 255) : encB (hex2 (IntKind.i64.wrap d)) = hexL d := by
 obtain ⟨_, _, e3, e4⟩ := i64_shr d
 rw [wrap_small' (by omega)]
 unfold hex2 hx1 hexL
 rw [encB_cat, encB_cat, encB_emp, digB_enc, digB_enc, nib_eq, nib_eq, e3, e4, u8_shr4, u8_and15]
 rw [show d / 16 % 16 = d / 16 by omega]
 rfl
theorem hex4_enc {x : Int} (h : 0 ≤ x ∧ x ≤ 65535) : encB (hex4 (IntKind.i64.wrap x)) = hexL (hiB x) ++ hexL (loB x) := by
 obtain ⟨e1, e2, e3, e4⟩ := i64_shr x
 rw [wrap_small' h]
 have h1 : hiB x = x / 256 := by
  have e : gshr .u16 x 8 = x / 256 := Int.fdiv_eq_ediv_of_nonneg _ (by decide)
  have e2 : IntKind.u8.wrap (x / 256) = x / 256 % 256 := by simp [IntKind.wrap, IntKind.bits, IntKind.signed]
  unfold hiB
  rw [e, e2]
  omega
 have h2 : loB x = x % 256 := by
  have e2 : IntKind.u8.wrap x = x % 256 := by simp [IntKind.wrap, IntKind.bits, IntKind.signed]
  unfold loB
  rw [e2]
 unfold hex4 hx1 hexL
 rw [encB_cat, encB_cat, encB_cat, encB_cat, encB_emp, digB_enc, digB_enc, digB_enc, digB_enc, nib_eq, nib_eq, nib_eq, nib_eq, e1, e2, e3, e4, u8_shr4, u8_and15, u8_shr4, u8_and15, h1, h2]
 rw [show x / 4096 % 16 = x / 256 / 16 by omega, show x / 16 % 16 = x % 256 / 16 by omega, show x % 16 = x % 256 % 16 by omega]
 rfl
theorem catB_assoc (a b c : ByteArray) : catB (catB a b) c = catB a (catB b c) := by
 simp only [catB, List.toList_toArray, List.append_assoc]
theorem catB_emp (a : ByteArray) : catB a emp = a := by
 obtain ⟨⟨l⟩⟩ := a
 simp [catB, emp]
theorem rec14_cat (b : FBw) (s : ByteArray) : ∀ i, rec14 b i s = catB s (rec14 b i emp)
 | 0 => (catB_emp s).symm
 | i + 1 => by
  show stp b i (rec14 b i s) = catB s (stp b i (rec14 b i emp))
  rw [rec14_cat b s i]
  unfold stp
  cases b i
  · rfl
  · rw [cond_true, cond_true, catB_assoc]
def T14 (b : FBw) : ByteArray := rec14 b 14 emp
def End19 (b : FBw) (n0 : Nat) (xs0 : List SV) : RG := .any fun a' c' => .leaf (.exit 0) (.lit true) [(0, .one (.sl a' (n0 + (T14 b).size) c'))] ⟨[], [], 2⟩ [⟨5, 1, a', n0 + (T14 b).size, c', xs0 ++ encB (T14 b)⟩]
noncomputable def h19w (st x d : Int) (b : FBw) : LG := ⟨ks19, [(0, false)], 2, fun S B g => match S, g with
 | [(0, .one (.sl a n c)), p29, p30], [ow] => (End19 b ow.n ow.xs).addVc (.sym ((isOwn a n c ow && decide (ow.n ≤ 4000000000)) && (sameS [p29, p30] [(29, .agg arr44), (30, .one (.int .i64 (.lit 0)))] && sameB B (B19 st x d b))))
 | _, _ => .fail⟩
def G19 : List (Nat × Sx.Spec) := [(42, specV FSt)]
noncomputable def t19 (W : World) (st x d : Int) (b : FBw) : HG := .seq .plain (.seq (.cust (runCalls Tryz.prog W G19 100000 44 (ops19 1) [⟨5, growS ⟨7, 11, 12, 0, 30, 9, 5⟩⟩] 0)) (.seq (.cust (custK [(0, false), (3, false)] [(0, false)] 1 (E2 st x d b))) (.seq (.cust (custK [(0, false), (3, false)] [(0, false)] 1 (E3 st x d b))) (.seq (.seq .plain (.block (.loop (h19w st x d b)))) .plain))))
noncomputable def r19 (W : World) (st x d : Int) (b : FBw) (a : Option Addr) (n c : Nat) (xs : List SV) : RG := runG Tryz.prog W G19 100000 44 (t19 W st x d b) (bodyOf Tryz.f19) (argSlots 0 [.one (.sl a n c), .agg (pinsA st x d b)]) noMem [⟨5, 1, a, n, c, xs⟩]
def ga4 (a1 a2 a3 a4 : Option Addr) (c1 c2 c3 c4 : Nat) (r : RG) : RG := gaW a4 c4 (gaW a3 c3 (gaW a2 c2 (gaW a1 c1 r)))
def s1 (st : Int) : ByteArray := catB (stN st) spB
noncomputable def smB (st x d : Int) (b : FBw) : Bool := sameTV (.one (.ptr 0 0)) (.one (.ptr 0 0)) && sameB (B19 st x d b) (B19 st x d b)
noncomputable def smS (st x d : Int) (b : FBw) : Bool := sameS [(29, .agg arr44), (30, .one (.int .i64 (.lit 0)))] [(29, .agg arr44), (30, .one (.int .i64 (.lit 0)))] && sameB (B19 st x d b) (B19 st x d b)
def oB (a : Option Addr) (n c : Nat) (xs : List SV) : Own := ⟨5, 1, a, n, c, xs⟩
def n4 (st : Int) (n : Nat) : Nat := n + (s1 st).size + 2 + 2 + 1 + 2
def x4w (st x d : Int) (xs : List SV) : List SV := xs ++ encB (s1 st) ++ hexL (hiB x) ++ hexL (loB x) ++ blank ++ hexL d
noncomputable def c19 (st x d : Int) (b : FBw) (a : Option Addr) (n c : Nat) (xs : List SV) (a1 a2 a3 : Option Addr) (c1 c2 c3 : Nat) : Bool :=
 (okz (stN st) spB && ((decide (a = a) && (decide (n = n) && decide (c = c))) && decide (n + (s1 st).size ≤ 140737488355328))) &&
 (((isOwn a1 (n + (s1 st).size) c1 (oB a1 (n + (s1 st).size) c1 (xs ++ encB (s1 st))) && decide (n + (s1 st).size + 4 ≤ 4000000000)) && smB st x d b) &&
 (((isOwn a2 (n + (s1 st).size + 2 + 2) c2 (oB a2 (n + (s1 st).size + 2 + 2) c2 (xs ++ encB (s1 st) ++ hexL (hiB x) ++ hexL (loB x))) && decide (n + (s1 st).size + 2 + 2 + 3 ≤ 4000000000)) && smB st x d b) &&
 ((isOwn a3 (n + (s1 st).size + 2 + 2 + 1 + 2) c3 (oB a3 (n + (s1 st).size + 2 + 2 + 1 + 2) c3 (xs ++ encB (s1 st) ++ hexL (hiB x) ++ hexL (loB x) ++ blank ++ hexL d)) && decide (n + (s1 st).size + 2 + 2 + 1 + 2 ≤ 4000000000)) && smS st x d b)))
theorem r19_b (W : World) (st x d : Int) (b : FBw) (a : Option Addr) (n c : Nat) (xs : List SV) (a1 a2 a3 a4 : Option Addr) (k1 k2 k3 k4 : Nat) : retOf Tryz.prog Tryz.f19.results.toList (ga4 a1 a2 a3 a4 k1 k2 k3 k4 (r19 W st x d b a n c xs)) =
 some (.sym (c19 st x d b a n c xs a1 a2 a3 k1 k2 k3), .one (.sl a4 (n + (s1 st).size + 2 + 2 + 1 + 2 + (T14 b).size) k4), [⟨5, 1, a4, n + (s1 st).size + 2 + 2 + 1 + 2 + (T14 b).size, k4, xs ++ encB (s1 st) ++ hexL (hiB x) ++ hexL (loB x) ++ blank ++ hexL d ++ encB (T14 b)⟩]) := by kernel_rfl
theorem line_enc {st x d : Int} {b : FBw} (hx : 0 ≤ x ∧ x ≤ 65535) (hd : 0 ≤ d ∧ d ≤ 255) : encB (s1 st) ++ hexL (hiB x) ++ hexL (loB x) ++ blank ++ hexL d ++ encB (T14 b) = encB (recB st x d b) := by
 unfold recB
 rw [rec14_cat, encB_cat]
 unfold recH s1
 rw [encB_cat, encB_cat, encB_cat, encB_cat, hex4_enc hx, hex2_enc hd, encB_sp]
 simp only [encB_cat, encB_sp, List.append_assoc]
 rfl
theorem line_size {st x d : Int} {b : FBw} : (s1 st).size + 2 + 2 + 1 + 2 + (T14 b).size = (recB st x d b).size := by
 unfold recB
 rw [rec14_cat, catB_size, recH_size]
 unfold s1 T14
 rw [catB_size, spB_size]
theorem loop19 (W : Bs) (hpn : W.pin = none) (st x d : Int) (b : FBw) : LoopGOk W Tryz.prog 44 lb19 (h19w st x d b) := by
 intro S Bl g f a w hgood hst
 unfold h19w at hgood ⊢
 dsimp only at hgood ⊢
 split at hgood <;> try exact hgood.elim
 rename_i sa sn sc p29 p30 ow
 obtain ⟨h1, h2⟩ := RG.good_addVc hgood
 have h3 := h2 (RG.good_is h1)
 simp only [SB.val_sym, Bool.and_eq_true, decide_eq_true_eq] at h3
 obtain ⟨⟨h4, h5⟩, h6, h7⟩ := h3
 have e1 := isOwn_ok h4
 have e2 := sameS_eq h6
 have e3 := sameB_eq h7
 simp only [List.cons.injEq, and_true] at e2
 obtain ⟨e2, e4⟩ := e2
 subst e2 e3 e4
 generalize ow.xs = xs at e1
 subst e1
 simp only at h5
 have hsz : ∀ i, (rec14 b i emp).size ≤ 6 * i := fun i => by
  have := rec14_size b emp i
  rw [emp_size] at this
  omega
 have hbody : HGW W Tryz.prog 44 (tb19 W.W) lb19 := by
  obtain ⟨e, he⟩ : ∃ e : Code × Code × Nat × Code × Code × Operand × Nat × Code × Code, lb19 = .seq e.1 (.seq e.2.1 (.seq (.block e.2.2.1 (.seq e.2.2.2.1 (.seq e.2.2.2.2.1 (.cond e.2.2.2.2.2.1 (.region e.2.2.2.2.2.2.1 ops19b false) e.2.2.2.2.2.2.2.1)))) e.2.2.2.2.2.2.2.2)) :=
   ⟨match lb19 with | .seq x1 (.seq x2 (.seq (.block i (.seq x3 (.seq x4w (.cond q (.region j _ _) x5)))) x6)) => (x1, x2, i, x3, x4w, q, j, x5, x6) | _ => (.skip, .skip, 0, .skip, .skip, .const .nilFunc, 0, .skip, .skip), by kernel_rfl⟩
  constructor
  rw [he]
  refine ⟨trivial, trivial, ⟨trivial, trivial, ?_, trivial⟩, trivial⟩
  refine calls_cust (gok_nil _) (fun c hc => ?_) (by simp)
  rw [List.mem_singleton] at hc
  subst hc
  exact callG_of (o := match ops19b.toList[4]? with | some o => o | none => { dst := none, op := .move (.const (.bool true)), type := 0, pos := "", after := #[], guard := none }) (by kernel_rfl) (by kernel_rfl) (growS_ok (by kernel_rfl) (by decide))
 have core := loopG_core (W := W) (P := Tryz.prog) (G := []) (gok_nil _) (n := 100000) (nt := 44) (N := 2) (body := lb19) (ks := ks19) (bs := [(0, false)]) (π := Nat × Option Addr × Nat) (fun p => p.1 ≤ 14) (fun _ => tb19 W.W) (fun _ _ => hbody.h) (fun p => 14 - p.1)
  (fun p => SP19 p.1 p.2.1 (sn + (rec14 b p.1 emp).size) p.2.2) (fun _ => B19 st x d b) (fun p => [⟨5, 1, p.2.1, sn + (rec14 b p.1 emp).size, p.2.2, xs ++ encB (rec14 b p.1 emp)⟩]) (End19 b sn xs) [(0, false)] [] rfl rfl ?_ (0, sa, sc) f a w (Nat.zero_le _) ?_ (fun i hi => by rw [hpn] at hi; cases hi)
 · exact wp_mono core (fun e a w hp => RG.is_addVc hp)
 · rintro ⟨i, a1, c1⟩ hi
   have hi : i ≤ 14 := hi
   show (s19 W.W st x d b i a1 (sn + (rec14 b i emp).size) c1 (xs ++ encB (rec14 b i emp))).All _
   by_cases h14w : i = 14
   · subst h14w
     rw [s19_end]
     refine ⟨rfl, .inr ⟨by simp, fun f a w hst e' he' => ?_⟩⟩
     exact ⟨a1, c1, he', f, hst⟩
   · have hlt : i < 14 := by omega
     have hs := hsz i
     rw [s19_eq _ _ _ _ _ _ _ _ _ i hlt]
     have hstep : rec14 b (i + 1) emp = stp b i (rec14 b i emp) := rfl
     refine ⟨fun hb => ?_, fun hb => ?_⟩
     · intro a2 c2
       have e5 : rec14 b (i + 1) emp = catB (rec14 b i emp) (sn19 i) := by
        rw [hstep]
        unfold stp
        rw [hb, cond_true]
        rfl
       have hnm := nmi_size i
       have hsn : (sn19 i).size ≤ 6 := by
        unfold sn19
        rw [catB_size, spB_size]
        omega
       refine ⟨?_, .inl ⟨rfl, (i + 1, a2, c2), by show i + 1 ≤ 14; omega, by show 14 - (i + 1) < 14 - i; omega, ?_, rfl, ?_⟩⟩
       · rw [SB.val_sym]
         unfold cd19
         rw [okz_true (Nat.le_of_eq spB_size) hnm, decide_eq_true (rfl : a1 = a1), decide_eq_true (rfl : c1 = c1)]
         simp only [decide_true, Bool.and_self, Bool.true_and, decide_eq_true_eq]
         omega
       · show SP19 (i + 1) a2 (sn + (rec14 b i emp).size + (sn19 i).size) c2 = SP19 (i + 1) a2 (sn + (rec14 b (i + 1) emp).size) c2
         rw [e5, catB_size, Nat.add_assoc]
       · show [(⟨5, 1, a2, sn + (rec14 b i emp).size + (sn19 i).size, c2, xs ++ encB (rec14 b i emp) ++ encB (sn19 i)⟩ : Own)] = [⟨5, 1, a2, sn + (rec14 b (i + 1) emp).size, c2, xs ++ encB (rec14 b (i + 1) emp)⟩]
         rw [e5, catB_size, encB_cat, Nat.add_assoc, List.append_assoc]
     · have e5 : rec14 b (i + 1) emp = rec14 b i emp := by
        rw [hstep]
        unfold stp
        rw [hb, cond_false]
       refine ⟨rfl, .inl ⟨rfl, (i + 1, a1, c1), by show i + 1 ≤ 14; omega, by show 14 - (i + 1) < 14 - i; omega, ?_, rfl, ?_⟩⟩
       · show SP19 (i + 1) a1 (sn + (rec14 b i emp).size) c1 = SP19 (i + 1) a1 (sn + (rec14 b (i + 1) emp).size) c1
         rw [e5]
       · show [(⟨5, 1, a1, sn + (rec14 b i emp).size, c1, xs ++ encB (rec14 b i emp)⟩ : Own)] = [⟨5, 1, a1, sn + (rec14 b (i + 1) emp).size, c1, xs ++ encB (rec14 b (i + 1) emp)⟩]
         rw [e5]
 · show GSt W 44 (SP19 0 sa (sn + 0) sc) ⟨[], B19 st x d b, 2⟩ [⟨5, 1, sa, sn + 0, sc, xs ++ []⟩] f a w
   rw [List.append_nil]
   exact hst
theorem hg19 (W : Bs) (hpn : W.pin = none) (st x d : Int) (b : FBw) (hd : 0 ≤ d ∧ d ≤ 255) : HGW W Tryz.prog 44 (t19 W.W st x d b) (bodyOf Tryz.f19) := by
 obtain ⟨e, he⟩ : ∃ e : Code × Code × Nat × Code, bodyOf Tryz.f19 = .seq e.1 (.seq (.region 1 (ops19 1) false) (.seq (.region 2 (ops19 2) true) (.seq (.region 3 (ops19 3) true) (.seq (.seq e.2.1 (.block e.2.2.1 (.loop lb19))) e.2.2.2)))) :=
  ⟨match bodyOf Tryz.f19 with | .seq x1 (.seq _ (.seq _ (.seq _ (.seq (.seq x2 (.block i _)) x3)))) => (x1, x2, i, x3) | _ => (.skip, .skip, 0, .skip), by kernel_rfl⟩
 constructor
 rw [he]
 refine ⟨trivial, ?_, f2_ok W st x d b, f3_ok W st x d b hd, ⟨trivial, loop19 W hpn st x d b⟩, trivial⟩
 refine calls_cust (gok_cons (st42_ok _) (gok_nil _)) (fun c hc => ?_) (by simp)
 rw [List.mem_singleton] at hc
 subst hc
 exact callG_of (o := op19 1 5) (by kernel_rfl) (by kernel_rfl) (growS_ok (by kernel_rfl) (by decide))
theorem r19_1 (W : World) (st x d : Int) (b : FBw) (a : Option Addr) (n c : Nat) (xs : List SV) : r19 W st x d b a n c xs = .any fun a1 c1 => gaW a1 c1 (r19 W st x d b a n c xs) := by kernel_rfl
theorem r19_2 (W : World) (st x d : Int) (b : FBw) (a : Option Addr) (n c : Nat) (xs : List SV) (a1 : Option Addr) (k1 : Nat) : gaW a1 k1 (r19 W st x d b a n c xs) = .any fun a2 c2 => gaW a2 c2 (gaW a1 k1 (r19 W st x d b a n c xs)) := by kernel_rfl
theorem r19_3 (W : World) (st x d : Int) (b : FBw) (a : Option Addr) (n c : Nat) (xs : List SV) (a1 a2 : Option Addr) (k1 k2 : Nat) : gaW a2 k2 (gaW a1 k1 (r19 W st x d b a n c xs)) = .any fun a3 c3 => gaW a3 c3 (gaW a2 k2 (gaW a1 k1 (r19 W st x d b a n c xs))) := by kernel_rfl
theorem r19_4 (W : World) (st x d : Int) (b : FBw) (a : Option Addr) (n c : Nat) (xs : List SV) (a1 a2 a3 : Option Addr) (k1 k2 k3 : Nat) : gaW a3 k3 (gaW a2 k2 (gaW a1 k1 (r19 W st x d b a n c xs))) = .any fun a4 c4 => ga4 a1 a2 a3 a4 k1 k2 k3 c4 (r19 W st x d b a n c xs) := by kernel_rfl
theorem run19 (W : World) (st x d : Int) (b : FBw) (a : Option Addr) (n c : Nat) (xs : List SV) : runG Tryz.prog W G19 100000 Tryz.f19.ntmps (t19 W st x d b) (bodyOf Tryz.f19) (argSlots 0 [.one (.sl a n c), .agg (pinsA st x d b)]) noMem [⟨5, 1, a, n, c, xs⟩] = r19 W st x d b a n c xs := by kernel_rfl
theorem isOwn_self (a : Option Addr) (n c : Nat) (xs : List SV) : isOwn a n c (oB a n c xs) = true := by simp [isOwn, oB]
theorem smB_true (st x d : Int) (b : FBw) : smB st x d b = true := by
 unfold smB
 rw [sameTV_refl rfl, sameB_refl (by rfl)]
 rfl
theorem smS_true (st x d : Int) (b : FBw) : smS st x d b = true := by
 unfold smS
 rw [sameS_refl (by rfl), sameB_refl (by rfl)]
 rfl
theorem c19_true {st x d : Int} {b : FBw} {a : Option Addr} {n c : Nat} {xs : List SV} {a1 a2 a3 : Option Addr} {c1 c2 c3 : Nat} (hn : n + (recB st x d b).size ≤ 4000000000) : c19 st x d b a n c xs a1 a2 a3 c1 c2 c3 = true := by
 have hls := line_size (st := st) (x := x) (d := d) (b := b)
 have hs := stN_size st
 have hs1 : (s1 st).size ≤ 7 := by
  unfold s1
  rw [catB_size, spB_size]
  omega
 unfold c19
 rw [okz_true hs (Nat.le_of_eq spB_size), isOwn_self, isOwn_self, isOwn_self, smB_true, smS_true]
 simp only [decide_true, Bool.and_self, Bool.true_and, Bool.and_true, Bool.and_eq_true, decide_eq_true_eq]
 omega
theorem line_grow {st x d : Int} {b : FBw} (hx : 0 ≤ x ∧ x ≤ 65535) (hd : 0 ≤ d ∧ d ≤ 255) {w : World} {a : Option Addr} {n c : Nat} {xs : List SV} (ho : Own.rel 0 w ⟨5, 1, a, n, c, xs⟩) (hn : n + (recB st x d b).size ≤ 4000000000) :
  Calls Tryz.prog 19 #[.slice a n c, .agg (dens (fun _ => 0) (pinsA st x d b))] w fun en w' => ∃ a' c', en = .returned (.slice a' (n + (recB st x d b).size) c') ∧ Own.rel 0 w' ⟨5, 1, a', n + (recB st x d b).size, c', xs ++ encB (recB st x d b)⟩ ∧
   w.grownBy w' (Value.slice a n c).ownBlock ∧ ∀ k, (Value.slice a' (n + (recB st x d b).size) c').ownBlock = some k → (Value.slice a n c).ownBlock = some k ∨ w.heap.size ≤ k := by
 have hnt : Tryz.f19.ntmps = 44 := by kernel_rfl
 have hN : n + (s1 st).size + 2 + 2 + 1 + 2 + (T14 b).size = n + (recB st x d b).size := by have := line_size (st := st) (x := x) (d := d) (b := b); omega
 have hX : xs ++ encB (s1 st) ++ hexL (hiB x) ++ hexL (loB x) ++ blank ++ hexL d ++ encB (T14 b) = xs ++ encB (recB st x d b) := by rw [← line_enc hx hd]; simp only [List.append_assoc]
 have hall : AllW (r19 (holeO w ⟨5, 1, a, n, c, xs⟩) st x d b a n c xs) fun e vc s m g => vc.val = true ∧ (e = .nrm ∨ e = .ret) ∧ ∃ ps v, resultsS Tryz.prog (Sx.look s) m Tryz.f19.results.toList = some ps ∧ resultV ps = some v ∧ ∃ a' c', v = .one (.sl a' (n + (recB st x d b).size) c') ∧ g = [⟨5, 1, a', n + (recB st x d b).size, c', xs ++ encB (recB st x d b)⟩] := by
  refine gaW_all (r19_1 _ st x d b a n c xs) fun a1 k1 => gaW_all (r19_2 _ st x d b a n c xs a1 k1) fun a2 k2 => gaW_all (r19_3 _ st x d b a n c xs a1 a2 k1 k2) fun a3 k3 => ?_
  have h4 := r19_4 (holeO w ⟨5, 1, a, n, c, xs⟩) st x d b a n c xs a1 a2 a3 k1 k2 k3
  refine gaW_all h4 fun a4 k4 => ?_
  have hb := r19_b (holeO w ⟨5, 1, a, n, c, xs⟩) st x d b a n c xs a1 a2 a3 a4 k1 k2 k3 k4
  rw [hN, hX] at hb
  exact retOf_all (R := fun v _ g => ∃ a' c', v = .one (.sl a' (n + (recB st x d b).size) c') ∧ g = [⟨5, 1, a', n + (recB st x d b).size, c', xs ++ encB (recB st x d b)⟩]) hb (by rw [SB.val_sym]; exact c19_true hn) (fun _ => ⟨a4, k4, rfl, rfl⟩)
 refine (calls_of_runO (w := w) (o := ⟨5, 1, a, n, c, xs⟩) (gok_cons (st42_ok _) (gok_nil _)) (n := 100000) (gf := 19) Tryz.func19 (show Tryz.f19.body = some (bodyOf Tryz.f19) by kernel_rfl) (t := t19 (holeO w ⟨5, 1, a, n, c, xs⟩) st x d b) (by rw [hnt]; exact hg19 _ rfl st x d b hd) (args := [.one (.sl a n c), .agg (pinsA st x d b)]) (by rw [hnt]; simp) ho
  (run19 _ st x d b a n c xs) (R := fun v _ g => ∃ a' c', v = .one (.sl a' (n + (recB st x d b).size) c') ∧ g = [⟨5, 1, a', n + (recB st x d b).size, c', xs ++ encB (recB st x d b)⟩]) hall).mono ?_
 rintro en w' ⟨v, m, g, f, ⟨a', c', rfl, rfl⟩, rfl, hg, hgr⟩
 obtain ⟨h1, h2⟩ := hg 0 _ rfl
 exact ⟨a', c', rfl, h1, hgr, h2⟩
theorem line_growC {p : PinV} (hx : 0 ≤ p.a ∧ p.a ≤ 65535) (hd : 0 ≤ p.d ∧ p.d ≤ 255) : GrowC Tryz.prog 19 [.agg (dens (fun _ => 0) p.cells)] (encB p.txt) := by
 refine ⟨⟨Tryz.f19, Tryz.func19, by kernel_rfl, by kernel_rfl⟩, ?_⟩
 intro w o he hs ho hb
 obtain ⟨e, size, a, n, c, xs⟩ := o
 simp only at he hs
 subst he hs
 rw [encB_length] at hb ⊢
 exact line_grow hx hd ho hb
end Go.Proofs.YtjmnolhkkpaodaaGreatDoor
