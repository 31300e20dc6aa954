/- A part of the proof: the reference is safe, both packages write and read alike. Several texts in one; printed by slim28.py out of the texts of wip. -/
import Derived.Test.YtjmnolhkkpaodaaGreatDoorZ41
import Derived.Test.YtjmnolhkkpaodaaGreatDoorTie
import Derived.Test.YtjmnolhkkpaodaaGreatDoorCards
import Derived.LaidMore
import Derived.Lay
import Derived.SevenTiedAt
import Derived.Stop.Joined
import Derived.Lib.LaidIn
set_option linter.all false
namespace Go.Proofs.YtjmnolhkkpaodaaGreatDoor
open Go Go.Sx Go.RowKit
set_option maxRecDepth 100000
theorem okP_pv {W w : World} {a : Option Addr} {n : Nat} (h : RowK W a n) (ho : Old W w) : ∀ j : Nat, j < n → pv w a j = pv W a j := fun j hj => (okP_old (h.at_ j hj) ho).2
theorem eqA_congr {W w : World} {a a' : Option Addr} {v : Int} (h : pv w a v = pv W a v) (h' : pv w a' v = pv W a' v) : eqA w a a' v = eqA W a a' v := by
 rw [Bool.eq_iff_iff, eqA_pv, eqA_pv, h, h']
theorem eqN_old {W w : World} {a a' : Option Addr} {n : Nat} (h : RowK W a n) (h' : RowK W a' n) (ho : Old W w) : ∀ k, k ≤ n → eqN w a a' k = eqN W a a' k
 | 0, _ => rfl
 | k + 1, hk => by
  unfold eqN
  rw [eqN_old h h' ho k (by omega), eqA_congr (okP_pv h ho k (by omega)) (okP_pv h' ho k (by omega))]
theorem rowK_old {W w : World} {a : Option Addr} {n : Nat} (h : RowK W a n) (ho : Old W w) : RowK w a n := ⟨h.lim, h.nil, fun j hj => (okP_old (h.at_ j hj) ho).1⟩
theorem sameA_old {W w : World} {a a' : Option Addr} {n n' : Nat} (h : RowK W a n) (h' : RowK W a' n') (ho : Old W w) : sameA w a n a' n' = sameA W a n a' n' := by
 unfold sameA
 by_cases hn : n = n'
 · subst hn
   rw [eqN_old h h' ho n (Nat.le_refl _)]
 · rw [show decide ((n : Int) = (n' : Int)) = false from decide_eq_false (by omega)]
   rfl
noncomputable def okK (W : World) (a : Option Addr) (n : Nat) : Bool := @decide (RowK W a n) (Classical.propDecidable _)
noncomputable def F14 (W : World) : List TV → Option (SB × TV)
 | [.one (.sl a n _), .one (.sl a' n' _)] => some (.sym (okK W a n && okK W a' n'), .one (.bool (.sym (sameA W a n a' n'))))
 | _ => none
theorem same_ok (W : World) : SpecOk W Tryz.prog 14 (specV (F14 W)) := by
 refine specV_calls ⟨Tryz.f14, Tryz.func14, by kernel_rfl, by kernel_rfl⟩ fun args c v hv hc => ?_
 unfold F14 at hv
 split at hv <;> try contradiction
 rename_i a n ca a' n' ca'
 simp only [Option.some.injEq, Prod.mk.injEq] at hv
 obtain ⟨rfl, rfl⟩ := hv
 rw [SB.val_sym, Bool.and_eq_true] at hc
 have h1 := @of_decide_eq_true _ (Classical.propDecidable _) hc.1
 have h2 := @of_decide_eq_true _ (Classical.propDecidable _) hc.2
 refine ⟨by simp, fun w ho f => ?_⟩
 refine (same_calls (c := ca) (c' := ca') (rowK_old h1 ho) (rowK_old h2 ho)).mono ?_
 rintro en w' ⟨rfl, hb⟩
 rw [sameA_old h1 h2 ho]
 exact ⟨rfl, hb⟩
noncomputable def GF5 (W : World) : List (Nat × Sx.Spec) := [(14, specV (F14 W)), (7, specV (F7 W))]
theorem gokF5 (W : World) : GOk W Tryz.prog (GF5 W) := gok_cons (same_ok W) (gok_cons (known_ok W) (gok_nil W))
noncomputable def lpB5 : Code := match bodyOf Tryz.f5 with
 | .seq _ (.seq _ (.seq _ (.seq _ (.seq (.seq _ (.block _ (.loop c))) _)))) => c
 | _ => .skip
noncomputable def bl5 : Code := match lpB5 with
 | .seq _ (.seq _ (.seq (.block _ c) _)) => c
 | _ => .skip
noncomputable def opB5 : Array Oper := match bl5 with
 | .seq _ (.seq (.region _ o _) _) => o
 | _ => #[]
noncomputable def tl5 : Code := match bl5 with
 | .seq _ (.seq _ c) => c
 | _ => .skip
def S5 (a : Option Addr) (n c : Nat) (a' : Option Addr) (n' c' : Nat) (ln er : Int) (p q : Option Addr × Nat × Nat) (r : SI) : SL := [(4, .one (.bool (.lit false))), (8, .one (.sl a n c)), (9, .one (.sl a' n' c')), (10, .one (.int .i64 (.sym ln))), (11, .one (.int .i64 (.sym er))), (43, .agg [.sl p.1 p.2.1 p.2.2, .sl q.1 q.2.1 q.2.2]), (44, .one (.int .i64 r))]
noncomputable def y5 (W : World) (a : Option Addr) (n c : Nat) (a' : Option Addr) (n' c' : Nat) (ln er : Int) (p q : Option Addr × Nat × Nat) (r : SI) : RG := runG Tryz.prog W (GF5 W) 100000 68 .plain tl5 (S5 a n c a' n' c' ln er p q r) ⟨[], [], 0⟩ []
def b5 (W : World) (a : Option Addr) (n : Nat) (a' : Option Addr) (n' : Nat) (ln er : Int) : Bool := bif er != 0 then true else bif ln != 0 then true else !(sameA W a n a' n')
noncomputable def d5 (W : World) (a : Option Addr) (n : Nat) (a' : Option Addr) (n' : Nat) (ln er : Int) : Bool := bif er != 0 then true else bif ln != 0 then true else okK W a n && okK W a' n'
noncomputable def z5 (W : World) (a : Option Addr) (n c : Nat) (a' : Option Addr) (n' c' : Nat) (ln er : Int) (p q : Option Addr × Nat × Nat) (r : SI) : RG := gr6 (y5 W a n c a' n' c' ln er p q r)
theorem y5_b (W : World) (a : Option Addr) (n c : Nat) (a' : Option Addr) (n' c' : Nat) (ln er : Int) (p q : Option Addr × Nat × Nat) (r : SI) : y5 W a n c a' n' c' ln er p q r = .br (b5 W a n a' n' ln er) (gl6 (y5 W a n c a' n' c' ln er p q r)) (z5 W a n c a' n' c' ln er p q r) := by kernel_rfl
theorem z5_l (W : World) (a : Option Addr) (n c : Nat) (a' : Option Addr) (n' c' : Nat) (ln er : Int) (p q : Option Addr × Nat × Nat) (r : SI) : z5 W a n c a' n' c' ln er p q r = .leaf .nrm (.sym (d5 W a n a' n' ln er)) (sOf7 (z5 W a n c a' n' c' ln er p q r)) (mOf7 (z5 W a n c a' n' c' ln er p q r)) (gOf7 (z5 W a n c a' n' c' ln er p q r)) := by kernel_rfl
theorem z5_4 (W : World) (a : Option Addr) (n c : Nat) (a' : Option Addr) (n' c' : Nat) (ln er : Int) (p q : Option Addr × Nat × Nat) (r : SI) : Sx.look (sOf7 (z5 W a n c a' n' c' ln er p q r)) 4 = some (.one (.bool (.lit false))) := by kernel_rfl
theorem z5_43 (W : World) (a : Option Addr) (n c : Nat) (a' : Option Addr) (n' c' : Nat) (ln er : Int) (p q : Option Addr × Nat × Nat) (r : SI) : Sx.look (sOf7 (z5 W a n c a' n' c' ln er p q r)) 43 = some (.agg [.sl p.1 p.2.1 p.2.2, .sl q.1 q.2.1 q.2.2]) := by kernel_rfl
theorem z5_44 (W : World) (a : Option Addr) (n c : Nat) (a' : Option Addr) (n' c' : Nat) (ln er : Int) (p q : Option Addr × Nat × Nat) (r : SI) : Sx.look (sOf7 (z5 W a n c a' n' c' ln er p q r)) 44 = some (.one (.int .i64 r)) := by kernel_rfl
structure Q5 (a : Option Addr) (n c : Nat) (a' : Option Addr) (n' c' : Nat) (ln er : Int) (ox oy : Own) : Prop where
 er : er = 0
 ln : ln = 0
 x : OwnQ ox a n c
 y : OwnQ oy a' n' c'
 eq : (unC ox.xs).map Rq.pv = (unC oy.xs).map Rq.pv
 lx : n ≤ 3900000000
 ly : n' ≤ 3900000000
noncomputable def q5 (a : Option Addr) (n c : Nat) (a' : Option Addr) (n' c' : Nat) (ln er : Int) (o0 o1 oy : Own) : Bool := @decide (Q5 a n c a' n' c' ln er o0 oy ∨ Q5 a n c a' n' c' ln er o1 oy) (Classical.propDecidable _)
def gA2 : TV → Option ((Option Addr × Nat × Nat) × (Option Addr × Nat × Nat))
 | .agg [.sl a n c, .sl a' n' c'] => some ((a, n, c), (a', n', c'))
 | _ => none
theorem gA2_eq {v : TV} {x : (Option Addr × Nat × Nat) × (Option Addr × Nat × Nat)} (h : gA2 v = some x) : v = .agg [.sl x.1.1 x.1.2.1 x.1.2.2, .sl x.2.1 x.2.2.1 x.2.2.2] := by
 unfold gA2 at h
 split at h
 · simp only [Option.some.injEq] at h
   rw [← h]
 · cases h
def out5 (p q : Option Addr × Nat × Nat) (r : SI) : SL := [(4, .one (.bool (.lit false))), (43, .agg [.sl p.1 p.2.1 p.2.2, .sl q.1 q.2.1 q.2.2]), (44, .one (.int .i64 r))]
noncomputable def E5v (l : List TV) (o0 o1 oy : Own) : RG := match l with
 | [v4, v8, v9, v10, v11, v43, v44] => match gF v4 with
  | some _ => match gSl v8 with
   | some x => match gSl v9 with
    | some y => match gSy v10 with
     | some ln => match gSy v11 with
      | some er => match gA2 v43 with
       | some z => match gIn v44 with
        | some r => .leaf .nrm (.sym (q5 x.1 x.2.1 x.2.2 y.1 y.2.1 y.2.2 ln er o0 o1 oy)) (out5 z.1 z.2 r) ⟨[], [], 0⟩ [o0, o1]
        | none => .fail
       | none => .fail
      | none => .fail
     | none => .fail
    | none => .fail
   | none => .fail
  | none => .fail
 | _ => .fail
noncomputable def E5 (S : SL) (g : Gh) : RG := match vals6 [4, 8, 9, 10, 11, 43, 44] S with
 | some l => match g with
  | [o0, o1, oy] => E5v l o0 o1 oy
  | _ => .fail
 | none => .fail
theorem E5_good {S : SL} {g : Gh} (h : (E5 S g).Good) : ∃ a n c a' n' c' ln er p q r o0 o1 oy, S = S5 a n c a' n' c' ln er p q r ∧ g = [o0, o1, oy] ∧ q5 a n c a' n' c' ln er o0 o1 oy = true ∧ E5 S g = .leaf .nrm (.sym (q5 a n c a' n' c' ln er o0 o1 oy)) (out5 p q r) ⟨[], [], 0⟩ [o0, o1] := by
 unfold E5 at h ⊢
 split at h <;> try exact h.elim
 rename_i l hl
 have hS := vals6_eq hl
 split at h <;> try exact h.elim
 rename_i o0 o1 oy
 unfold E5v at h ⊢
 split at h <;> try exact h.elim
 split at h <;> try exact h.elim
 rename_i h1
 split at h <;> try exact h.elim
 rename_i x h2
 split at h <;> try exact h.elim
 rename_i y h3
 split at h <;> try exact h.elim
 rename_i ln h4
 split at h <;> try exact h.elim
 rename_i er h5
 split at h <;> try exact h.elim
 rename_i z h6
 split at h <;> try exact h.elim
 rename_i r h7
 have hq : (SB.sym (q5 x.1 x.2.1 x.2.2 y.1 y.2.1 y.2.2 ln er o0 o1 oy)).val = true := h
 rw [SB.val_sym] at hq
 refine ⟨x.1, x.2.1, x.2.2, y.1, y.2.1, y.2.2, ln, er, z.1, z.2, r, o0, o1, oy, ?_, rfl, hq, ?_⟩
 · rw [hS, gF_eq h1, gSl_eq h2, gSl_eq h3, gSy_eq h4, gSy_eq h5, gA2_eq h6, gIn_eq h7]
   rfl
 · rfl
def ks5 : List (Nat × Bool) := [(4, false), (8, false), (9, false), (10, true), (11, true), (43, false), (44, false)]
theorem Q5_rows {w : World} {a : Option Addr} {n c : Nat} {a' : Option Addr} {n' c' : Nat} {ln er : Int} {ox oy : Own} (h : Q5 a n c a' n' c' ln er ox oy) (hx : ox.rel 0 w) (hy : oy.rel 0 w) : b5 w a n a' n' ln er = false ∧ d5 w a n a' n' ln er = true := by
 have r1 := ownQ_row h.x hx
 have r2 := ownQ_row h.y hy
 have e := (sameA_list r1 r2).2 h.eq
 unfold b5 d5 okK
 rw [h.er, h.ln, e, @decide_eq_true _ (Classical.propDecidable _) (rowK_of r1 (by rw [h.x.len]; exact h.lx)), @decide_eq_true _ (Classical.propDecidable _) (rowK_of r2 (by rw [h.y.len]; exact h.ly))]
 exact ⟨rfl, rfl⟩
theorem tail5_ok (W : World) : CustOk (Bs.of W) Tryz.prog 68 tl5 (custZ ks5 E5) := by
 refine custZ_ok rfl fun S g f x w hgood hst => ?_
 obtain ⟨a, n, c, a', n', c', ln, er, p, q, r, o0, o1, oy, rfl, rfl, hc, e⟩ := E5_good hgood
 rw [e]
 clear e hgood
 have hQ := @of_decide_eq_true _ (Classical.propDecidable _) hc
 have hv : b5 w a n a' n' ln er = false ∧ d5 w a n a' n' ln er = true := by
  rcases hQ with h | h
  · exact Q5_rows h (hst.gh.own 0 _ rfl) (hst.gh.own 2 _ rfl)
  · exact Q5_rows h (hst.gh.own 1 _ rfl) (hst.gh.own 2 _ rfl)
 refine tail0k_wp (t := .plain) (n := 100000) (gk := [o0, o1]) hst rfl ?_ (gokF5 w) ⟨trivial⟩ ?_
 · intro k o hk
   match k, hk with
   | 0, hk => exact hk
   | 1, hk => exact hk
 show AllW (y5 w a n c a' n' c' ln er p q r) _
 rw [y5_b]
 refine all_no hv.1 ?_
 rw [z5_l, hv.2]
 refine all_leaf ⟨rfl, fun f2 a2 w2 e' he' h6 => ⟨he', f2, h6.fewer fun k' v' hk => ?_⟩⟩
 unfold out5 at hk
 rw [look_cons] at hk
 split at hk
 · rename_i e
   subst e
   rw [z5_4]
   exact hk
 rw [look_cons] at hk
 split at hk
 · rename_i e
   subst e
   rw [z5_43]
   exact hk
 rw [look_cons] at hk
 split at hk
 · rename_i e
   subst e
   rw [z5_44]
   exact hk
 · simp [Sx.look] at hk
noncomputable def fmtA5 (s : SL) (m : Mem) (g : Gh) : RG := match Sx.look s 44 with
 | some (.one (.int .i64 (.lit 0))) => fmtG 48 49 0 s m g
 | _ => fmtG 48 49 1 s m g
noncomputable def tB5 (W : World) : HG := .seq .plain (.seq .plain (.seq (.block (.seq .plain (.seq (.cust (runCalls Tryz.prog W (GF5 W) 100000 68 opB5 [⟨1, fmtA5⟩, ⟨2, parG paD (fun t => lim3 t && gMax W) 49 50⟩] 0)) (.cust (custZ ks5 E5))))) .plain))
noncomputable def opF5 (k : Nat) : Array Oper := match k, bodyOf Tryz.f5 with
 | 0, .seq _ (.seq _ (.seq (.region _ o _) _)) => o
 | 1, .seq _ (.seq _ (.seq _ (.seq _ (.seq (.seq (.region _ o _) _) _)))) => o
 | _, _ => #[]
noncomputable def tF5 (W : World) (a : Option Addr) (n : Nat) : HG := .seq .plain (.seq .plain (.seq (.cust (runCalls Tryz.prog W (GF5 W) 100000 68 (opF5 0) [⟨1, appQ W 21 22⟩] 0)) (.seq (.seq .plain (.block (.cust (custZ [(1, false), (4, false), (5, false), (24, true), (25, true)] (EA5 (rqs W a n))))))
 (.seq (.seq (.cust (runCalls Tryz.prog W (GF5 W) 100000 68 (opF5 1) [⟨2, madG W 41 42⟩] 0)) (.block (.cust (loopU Tryz.prog W (GF5 W) 100000 68 (tB5 W) lpB5 3)))) .plain))))
noncomputable def xF5 (W : World) (a : Option Addr) (n c : Nat) (a' : Option Addr) (n' c' : Nat) : RG := runG Tryz.prog W (GF5 W) 100000 68 (tF5 W a n) (bodyOf Tryz.f5) (argSlots 0 [.one (.sl a n c), .one (.sl a' n' c')]) noMem []
noncomputable def sF5 (W : World) (a : Option Addr) (n c : Nat) (a' : Option Addr) (n' c' : Nat) : RG := (xF5 W a n c a' n' c').slim 0 [] [] [(4, false)] []
noncomputable def K5 (W : World) (ox : Own) (a : Option Addr) (n c : Nat) (ay : Option Addr) (cy : Nat) (o0 o1 : Own) : Bool :=
 ((okQ ox a n c && okFm (unC ox.xs)) && (lim3 (fmtT (unC ox.xs)) && gMax W)) && q5 a n c ay (paD (fmtT (unC ox.xs))).l.length cy (paD (fmtT (unC ox.xs))).ln (paD (fmtT (unC ox.xs))).er o0 o1 ⟨34, 17, ay, (paD (fmtT (unC ox.xs))).l.length, cy, cellsL (paD (fmtT (unC ox.xs))).l⟩
def M5 (W : World) (a : Option Addr) (n : Nat) : List Rq := (rqs W a n).map fixQ
noncomputable def c5 (W : World) (a : Option Addr) (n c : Nat) (a' : Option Addr) (n' c' : Nat) (l : List Rq) (a1 a2 a3 a4 : Option Addr) (c1 c2 c3 c4 : Nat) : Bool :=
 okAp W a n c && (qA5 (rqs W a n) ⟨34, 17, a1, n, c1, cellsL (rqs W a n)⟩ a1 n c1 (n : Int) 0 && ((okScr W a' n' c' && (K5 W (owR (M5 W a n) a1 c1) a1 n c1 a3 c3 (owR (M5 W a n) a1 c1) (owM l a2 c2) && K5 W (owM l a2 c2) a2 l.length c2 a4 c4 (owR (M5 W a n) a1 c1) (owM l a2 c2))) && gMax W))
theorem sF5_eq (W : World) (a : Option Addr) (n c : Nat) (a' : Option Addr) (n' c' : Nat) : sF5 W a n c a' n' c' = .br (limF3 n n') (LB4 (.sym (gMax W)) true []) (.any fun a1 c1 => .pick (⟨[], by simp, by simp⟩ : MadeL) fun l => .any fun a2 c2 => .any fun a3 c3 => .any fun a4 c4 =>
  LB4 (.sym (c5 W a n c a' n' c' l.1 a1 a2 a3 a4 c1 c2 c3 c4)) true [owR (M5 W a n) a1 c1, owM l.1 a2 c2]) := by kernel_rfl
theorem K5_ok {W : World} {L : List Rq} (hv : ∀ q ∈ L, VQ q) (hl : L.length ≤ 5000000) (hm : gMax W = true) {n : Nat} (hn : L.length = n) (a : Option Addr) (c : Nat) (ay : Option Addr) (cy : Nat) {o0 o1 : Own} (h : o0 = owR L a c ∨ o1 = owR L a c) : K5 W (owR L a c) a n c ay cy o0 o1 = true := by
 subst hn
 have hD : D (fmtT (unC (cellsL L))) = fmtL L := by rw [D_fmtT, pv_fmtL (unC_pv L)]
 obtain ⟨h1, h2, h3⟩ := paD_fmt hD hv
 have hs : (fmtT (unC (cellsL L))).size ≤ 3000000000 := by
  rw [← D_len, hD]
  have := fmtL_size L
  omega
 have hlen : (paD (fmtT (unC (cellsL L)))).l.length = L.length := by
  have := congrArg List.length h1
  simpa using this
 have hQ : Q5 a L.length c ay (paD (fmtT (unC (cellsL L)))).l.length cy (paD (fmtT (unC (cellsL L)))).ln (paD (fmtT (unC (cellsL L)))).er (owR L a c) ⟨34, 17, ay, (paD (fmtT (unC (cellsL L)))).l.length, cy, cellsL (paD (fmtT (unC (cellsL L)))).l⟩ := by
  refine ⟨h3, h2, ownQ_cells L a c, ownQ_cells _ _ _, ?_, by omega, by omega⟩
  show (unC (cellsL L)).map Rq.pv = _
  rw [unC_pv, unC_pv, h1]
 have e1 : okQ (owR L a c) a L.length c = true := okQ_cells L a c
 have e2 : okFm (unC (cellsL L)) = true := @decide_eq_true _ (Classical.propDecidable _) (fmtOk_of (unC_pv L) hv hl)
 unfold K5
 rw [e1, show (owR L a c).xs = cellsL L from rfl, e2, lim3_ok hs, hm]
 refine @decide_eq_true _ (Classical.propDecidable _) ?_
 rcases h with rfl | rfl
 · exact .inl hQ
 · exact .inr hQ
theorem nv5_rng (v : Int) : 1 ≤ nv5 v ∧ nv5 v ≤ 10 := by
 have hp := place_range v 10 (by decide) (by decide)
 have e : nv5 v = 1 + plc4 v 10 := by
  unfold nv5 gadd
  have h1 : 0 ≤ plc4 v 10 := hp.1
  have h2 : plc4 v 10 < 10 := hp.2
  rw [IntKind.wrap_i64]
  omega
 rw [e]
 have h1 : 0 ≤ plc4 v 10 := hp.1
 have h2 : plc4 v 10 < 10 := hp.2
 omega
theorem M5_vq {W : World} {a : Option Addr} {n c : Nat} (h : RowP W a n c) : ∀ q ∈ M5 W a n, VQ q := by
 intro q hq
 unfold M5 rqs at hq
 obtain ⟨r, hr, rfl⟩ := List.mem_map.1 hq
 obtain ⟨j, hj, rfl⟩ := List.mem_map.1 hr
 obtain ⟨h1, h2⟩ := rngP_ok (h.at_ j (List.mem_range.1 hj)).2
 have hn := nv5_rng (rqOf W a j).st
 exact ⟨hn.1, hn.2, h1.1, h1.2, h2.1, h2.2⟩
theorem M5_len (W : World) (a : Option Addr) (n : Nat) : (M5 W a n).length = n := by unfold M5; rw [List.length_map, rqs_len]
theorem c5_ok {W : World} {a : Option Addr} {n c : Nat} {a' : Option Addr} {n' c' : Nat} (hr : RowP W a n c) (hn : n ≤ 60) (hs : RowOk W .i64 a' n' c') (hm : gMax W = true) (l : MadeL) (a1 a2 a3 a4 : Option Addr) (c1 c2 c3 c4 : Nat) : c5 W a n c a' n' c' l.1 a1 a2 a3 a4 c1 c2 c3 c4 = true := by
 have hM := M5_len W a n
 have k1 := K5_ok (W := W) (M5_vq hr) (by omega) hm hM a1 c1 a3 c3 (o0 := owR (M5 W a n) a1 c1) (o1 := owM l.1 a2 c2) (.inl rfl)
 have k2 : K5 W (owM l.1 a2 c2) a2 l.1.length c2 a4 c4 (owR (M5 W a n) a1 c1) (owM l.1 a2 c2) = true := K5_ok (W := W) l.2.1 l.2.2 hm rfl a2 c2 a4 c4 (.inr rfl)
 have hq : qA5 (rqs W a n) ⟨34, 17, a1, n, c1, cellsL (rqs W a n)⟩ a1 n c1 (n : Int) 0 = true := by
  refine @decide_eq_true _ (Classical.propDecidable _) ⟨?_, (rqs_len W a n).symm, rfl, rfl, by rw [rqs_len]; exact hn⟩
  unfold owR
  rw [rqs_len]
 unfold c5 okAp okScr
 rw [@decide_eq_true _ (Classical.propDecidable _) ⟨hr, hn⟩, hq, @decide_eq_true _ (Classical.propDecidable _) hs, k1, k2, hm]
 rfl
theorem hgB5 (W : World) : HGW (Bs.of W) Tryz.prog 68 (tB5 W) lpB5 := by
 obtain ⟨e, he⟩ : ∃ e : Code × Code × Nat × Code × Nat × Code, lpB5 = .seq e.1 (.seq e.2.1 (.seq (.block e.2.2.1 (.seq e.2.2.2.1 (.seq (.region e.2.2.2.2.1 opB5 false) tl5))) e.2.2.2.2.2)) :=
  ⟨match lpB5 with | .seq x1 (.seq x2 (.seq (.block i (.seq x3 (.seq (.region j _ _) _))) x4)) => (x1, x2, i, x3, j, x4) | _ => (.skip, .skip, 0, .skip, 0, .skip), by kernel_rfl⟩
 constructor
 rw [he]
 refine ⟨trivial, trivial, ⟨trivial, ?_, tail5_ok W⟩, trivial⟩
 refine calls_cust (gokF5 _) (fun c hc => ?_) (by simp)
 simp only [List.mem_cons, List.not_mem_nil, or_false] at hc
 rcases hc with rfl | rfl
 · have h0 : CallOk (Bs.of W) Tryz.prog 68 (opB5[1]!) (fmtG 48 49 0) := fmtG_ok (gf := 9) (by kernel_rfl) (by kernel_rfl) (by decide) ⟨_, Tryz.func9, by kernel_rfl, by kernel_rfl⟩ fun w a n c h => fmt9_calls h
   have h1 : CallOk (Bs.of W) Tryz.prog 68 (opB5[1]!) (fmtG 48 49 1) := fmtG_ok (gf := 9) (by kernel_rfl) (by kernel_rfl) (by decide) ⟨_, Tryz.func9, by kernel_rfl, by kernel_rfl⟩ fun w a n c h => fmt9_calls h
   refine callG_of (o := opB5[1]!) (by kernel_rfl) (by kernel_rfl) fun s m g f a w Q hg hst => ?_
   unfold fmtA5 at hg ⊢
   split at hg
   · exact h0 s m g f a w Q hg hst
   · exact h1 s m g f a w Q hg hst
 · refine callG_of (o := opB5[2]!) (by kernel_rfl) (by kernel_rfl) (parG_ok (gf := 13) (by kernel_rfl) (by kernel_rfl) (by decide) ⟨_, Tryz.func13, by kernel_rfl, by kernel_rfl⟩ fun t w ht ho => ?_)
   rw [Bool.and_eq_true] at ht
   exact parse13_calls ht.1 (gMax_old ht.2 ho)
theorem hgF5 (W : World) (a : Option Addr) (n : Nat) : HGW (Bs.of W) Tryz.prog 68 (tF5 W a n) (bodyOf Tryz.f5) := by
 obtain ⟨e, he⟩ : ∃ e : (Code × Code × Nat) × (Code × Nat) × (Nat × Nat) × Code, bodyOf Tryz.f5 = .seq e.1.1 (.seq e.1.2.1 (.seq (.region e.1.2.2 (opF5 0) false) (.seq (.seq e.2.1.1 (.block e.2.1.2 (.loop lpA5))) (.seq (.seq (.region e.2.2.1.1 (opF5 1) false) (.block e.2.2.1.2 (.loop lpB5))) e.2.2.2)))) :=
  ⟨match bodyOf Tryz.f5 with | .seq x1 (.seq x2 (.seq (.region i _ _) (.seq (.seq x3 (.block j _)) (.seq (.seq (.region k _ _) (.block m _)) x4)))) => ((x1, x2, i), (x3, j), (k, m), x4) | _ => ((.skip, .skip, 0), (.skip, 0), (0, 0), .skip), by kernel_rfl⟩
 constructor
 rw [he]
 refine ⟨trivial, trivial, ?_, ⟨trivial, loopA5_ok W (rqs W a n)⟩, ⟨?_, loopU_ok (gokF5 W) (hgB5 W) 3⟩, trivial⟩
 · refine calls_cust (gokF5 _) (fun c hc => ?_) (by simp)
   rw [List.mem_singleton] at hc
   subst hc
   exact callG_of (o := (opF5 0)[1]!) (by kernel_rfl) (by kernel_rfl) (appQ_ok (by kernel_rfl) (by kernel_rfl) (by decide))
 · refine calls_cust (gokF5 _) (fun c hc => ?_) (by simp)
   rw [List.mem_singleton] at hc
   subst hc
   exact callG_of (o := (opF5 1)[2]!) (by kernel_rfl) (by kernel_rfl) (madG_ok (by kernel_rfl) (by kernel_rfl) (by decide))
theorem law5_calls {W : World} {a : Option Addr} {n c : Nat} {a' : Option Addr} {n' c' : Nat} (hp : limF3 n n' = false → RowP W a n c) (hs : limF3 n n' = false → RowOk W .i64 a' n' c') (hm : gMax W = true) : Calls Tryz.prog 5 #[.slice a n c, .slice a' n' c'] W fun en w' => en = .returned (.bool true) ∧ Below W.heap.size W w' := by
 have hn : Tryz.f5.ntmps = 68 := by kernel_rfl
 have hcalls := calls_of_runG (gokF5 W) (n := 100000) (g := 5) Tryz.func5 (show Tryz.f5.body = some (bodyOf Tryz.f5) by kernel_rfl) (t := tF5 W a n) (args := [.one (.sl a n c), .one (.sl a' n' c')]) (by rw [hn]; exact (hgF5 W a n).h) (by rw [hn]; simp)
  (R := fun v _ => ∃ q, v = .one (.bool q) ∧ q.val = true) (N := 0) (ks := []) (bs := []) (ke := [(4, false)]) (be := []) rfl rfl ?_
 · refine hcalls.mono ?_
   rintro en w' ⟨v, g, f, ⟨q, rfl, hq⟩, rfl, _, hb⟩
   refine ⟨?_, hb⟩
   rw [← hq]
   rfl
 · rw [hn]
   show (sF5 W a n c a' n' c').All _
   rw [sF5_eq]
   refine ⟨fun _ => ?_, fun h0 => ?_⟩
   · exact ⟨by rw [SB.val_sym]; exact hm, .inr rfl, [(false, [.bool (.lit true)])], _, by kernel_rfl, rfl, _, rfl, rfl⟩
   · intro a1 c1 l a2 c2 a3 c3 a4 c4
     refine ⟨?_, .inr rfl, [(false, [.bool (.lit true)])], _, by kernel_rfl, rfl, _, rfl, rfl⟩
     rw [SB.val_sym]
     have h60 : n ≤ 60 := by
      unfold limF3 at h0
      cases hd : decide ((60 : Int) < (n : Int))
      · have := of_decide_eq_false hd
        omega
      · rw [hd] at h0
        cases h0
     exact c5_ok (hp h0) h60 (hs h0) hm l a1 a2 a3 a4 c1 c2 c3 c4
end Go.Proofs.YtjmnolhkkpaodaaGreatDoor
namespace Go.Proofs.YtjmnolhkkpaodaaGreatDoor
open Go Go.Sx Go.RowKit Go.ChangeShapes Go.WideShapes Go.ChangeAt Go.Deep
set_option maxRecDepth 100000
def laidL : List (String × DataW Unit) := [("unicode/utf8.acceptRanges", Rows.laid_unicode_utf8_acceptRanges), ("unicode/utf8.first", Rows.laid_unicode_utf8_first)]
theorem gMax_of {w : World} (h : w.ShapedOpen Tryz.prog) : gMax w = true := by
 have h0 : ∃ zero, ((begin Tryz.prog (fun _ _ => 0) default).world.heap[0]?).bind Obj.row? = some (zero, 3) ∧ zero.size = 1 := ⟨#[.int .i64 0], by kernel_rfl, rfl⟩
 obtain ⟨zero, h1, h2⟩ := h0
 obtain ⟨cs, hh, hs, hr⟩ := h.1 0 zero 3 (of_decide_eq_true (by kernel_rfl)) h1
 obtain ⟨ts, hts, _, hall⟩ := hr (by kernel_rfl)
 have hts' : Tryz.prog.cellTypes Tryz.prog.depth 3 = some [3] := by kernel_rfl
 rw [hts', Option.some.injEq] at hts
 subst hts
 have h3 : 0 < cs.size := by omega
 obtain ⟨u, hu, hok⟩ := hall 0 cs[0] (by simp [h3])
 have : u = 3 := by simpa using hu.symm
 subst this
 have hcell : w.cell? ⟨0, 0, none⟩ = some cs[0] := by simp [World.cell?, hh, h3]
 have hu3 : Tryz.prog.underlying 3 = some (.int .i64) := by kernel_rfl
 unfold Cell.ok at hok
 rw [hu3] at hok
 unfold gMax isInt
 rw [hcell]
 cases hv : cs[0] <;> rw [hv] at hok <;> first | (obtain ⟨rfl, _⟩ := hok; simp) | simp at hok
theorem law_stepS {C : Checked} {os : Os} {g : FuncId} {f : Func} {s : ChangeSpec} {H : Type} {enc : TypeId × Value → H} {X : World → Prop} (n : Nat)
  (own : ownKnob C.prog.godebug = none) (started : os.Started) (noInit : C.prog.inits.idxOf? g = none) (hfn : C.prog.funcs[g]? = some f)
  (hn : f.params.size = n) (fine : typesFine C.prog f = true) (hvars : s.vars = [])
  (hs : ∀ ds : List (DataW H), ds.length = n → s.fn H ds = { results := [.lit (.bool true)], args := ds })
  (witness : ∃ (w : World) (tape : Tape) (i : Input), w.os = os ∧ (w.forCall tape i).Shaped C.prog ∧ i.vars = [] ∧ Input.okWide C.prog (w.forCall tape i) .any w.heap.size g i ∧
   ((s.pre enc C.prog f [] false (w.forCall tape i).memory i.args ∧ X (w.forCall tape i).memory) ∧ sizedMet enc C.prog f (OpenSpec.ofChange s) false (w.forCall tape i).memory i.args) ∧ ({} : Assume).holds C.prog (lone (Frame.enter C.prog g i.args .normal) [] (w.forCall tape i)))
  (walk : ∀ (W : World) (base : Nat) (args : Array Value), W.ShapedOpen C.prog → (∀ (j : Nat) t v, f.params.toList[j]? = some t → args.toList[j]? = some v → Value.okWide C.prog W .any base t v) → args.toList.length = f.params.toList.length →
   ∀ (ds : List (DataW H)) (ps : List MemPlace), DataW.TrodAll enc C.prog W 0 (fun _ => true) true f.params.toList args.toList ds ps →
   Calls C.prog g args W fun e W' => e = .returned (.bool true) ∧ Below W.heap.size W W') :
  ReturnsInHanded {} C os g .any (fun w args => (s.pre enc C.prog f [] false w args ∧ X w) ∧ sizedMet enc C.prog f (OpenSpec.ofChange s) false w args) (s.post enc C.prog f false true false false) := by
 simp only [typesFine, Bool.and_eq_true, List.all_eq_true, decide_eq_true_eq] at fine
 obtain ⟨⟨hl, hts⟩, hres⟩ := fine
 refine returnsInHanded_of_calls own started noInit witness ?_
 intro w tape i _ hshape _ hok hpre _
 obtain ⟨_, _, _, fn', hfn', _, _, _, _, hval⟩ := hok
 obtain rfl : fn' = f := Option.some.inj (hfn'.symm.trans hfn)
 obtain ⟨⟨⟨ds, gs, before, hw, _⟩, _⟩, _⟩ := hpre
 have hW := DataW.Whole.of_heap (w' := w.forCall tape i) (by rfl) hw
 have hW' := hW
 obtain ⟨p, q, hA, hV, rfl, hfz, hnd⟩ := hW
 rw [hvars] at hV
 obtain ⟨rfl, rfl⟩ := trodVars_none hV
 have hlen := trodAll_length _ _ _ _ hA
 have hdn : ds.length = n := by rw [hlen.2, ← hn]; simp
 have hcalls := walk (w.forCall tape i) w.heap.size i.args hshape (fun j t v hj hv => hval j t v (by simpa using hj) (by simpa using hv)) hlen.1 ds p hA
 refine hcalls.mono fun e W' ⟨he, hb⟩ => ?_
 subst he
 refine ChangeSpec.post_blind ⟨ds, [], p ++ [], [], p, [], hW', ?_, ?_, ?_, hb.frame _, fun h => by cases h⟩
 · rw [List.append_nil, hs ds hdn]
   split at hres
   · next t ht =>
     split at hres
     · next hu =>
       have hsz : fn'.resultTypes.size = 1 := by
        have := congrArg List.length ht
        simpa using this
       rw [ht, hsz]
       exact trodAll_cons_mk (shut_bool hu true) trodAll_mk0
     · exact absurd hres (by decide)
   · exact absurd hres (by decide)
 · rw [List.append_nil, hs ds hdn]
   exact trodAll_below hl hb _ _ _ _ (fun t ht => by simpa using hts t ht) hA fun x hx => hW'.lt x (by simpa using hx)
 · rw [hvars, List.append_nil, hs ds hdn]
   trivial
theorem own : ownKnob Tryz.prog.godebug = none := by kernel_rfl
theorem laid_met (os : Os) (args : Array Value) : laidMetH Tryz.prog laidL ((World.laidAll Tryz.prog os laidL).forCall (fun _ _ => 0) ⟨#[], args, []⟩).memory := by
 rw [MakeChecks.laidMetH_plain _ _ _ (by kernel_rfl)]
 exact laidMet_laidAll _ (by kernel_rfl) (by kernel_rfl)
theorem ok_ints {H : Type} {enc : TypeId × Value → H} {W : World} {r : Reach} {base : Nat} {v : Value} (h : Value.okWide Tryz.prog W r base 23 v) {d : DataW H} {ps : List MemPlace} (hd : DataW.Trod enc Tryz.prog W 0 (fun _ => true) true 23 v d ps) : ∃ a n c, v = .slice a n c ∧ RowOk W .i64 a n c := by
 obtain ⟨h1, h2, _⟩ := args_open (P := Tryz.prog) (r := r) (base := base) [23] [.ints .i64] [v] [] (by kernel_rfl) rfl
  (fun j t u ht hu => by
   match j, ht, hu with
   | 0, ht, hu => cases ht; cases hu; exact h)
  (fun j t u ht hu => by
   match j, ht, hu with
   | 0, ht, hu => cases ht; cases hu; exact ⟨d, ps, hd⟩)
 exact ⟨_, _, _, by simpa [argsTV, TV.den, SV.den] using h1, h2⟩
def pinsSh : List CSh := [.int .i64, .int .u16, .int .u8, .bool, .bool, .bool, .bool, .bool, .bool, .bool, .bool, .bool, .bool, .bool, .bool, .bool, .bool]
theorem ok_pins {H : Type} {enc : TypeId × Value → H} {W : World} {r : Reach} {base : Nat} {v : Value} (h : Value.okWide Tryz.prog W r base 22 v) {d : DataW H} {ps : List MemPlace} (hd : DataW.Trod enc Tryz.prog W 0 (fun _ => true) true 22 v d ps) : ∃ a n c, v = .slice a n c ∧ RowsOk W pinsSh a n c := by
 obtain ⟨h1, h2, _⟩ := args_open (P := Tryz.prog) (r := r) (base := base) [22] [.rows pinsSh] [v] [] (by kernel_rfl) rfl
  (fun j t u ht hu => by
   match j, ht, hu with
   | 0, ht, hu => cases ht; cases hu; exact h)
  (fun j t u ht hu => by
   match j, ht, hu with
   | 0, ht, hu => cases ht; cases hu; exact ⟨d, ps, hd⟩)
 exact ⟨_, _, _, by simpa [argsTV, TV.den, SV.den] using h1, h2⟩
theorem fmtB_sz (W : World) (a : Option Addr) : ∀ n, (fmtB W a n).size ≤ 101 * n
 | 0 => Nat.zero_le _
 | n + 1 => by
  have e : fmtB W a (n + 1) = catB (fmtB W a n) (catB (pv W a (n : Int)).txt nlB) := rfl
  have := fmtB_sz W a n
  have ht := txt_size (pv W a (n : Int))
  rw [e, catB_size, catB_size, nlB_size]
  omega
theorem rowP_in {W : World} {a : Option Addr} {n c : Nat} (h : RowsOk W pinsSh a n c) (hn : n ≤ 60) : RowP W a n c := by
 have hs := fmtB_sz W a n
 refine ⟨by omega, by omega, h.nil, fun j hj => ?_⟩
 have hc : ∀ (i : Nat) (s : CSh), pinsSh[i]? = some s → s.at_ W (adP a (j : Int) i) := fun i s hi => by
  have := h.at_ j hj i s hi
  unfold adP atRow
  rw [Addr.add_add]
  exact this
 have c0 := hc 0 _ rfl
 have c1 := hc 1 _ rfl
 have c2 := hc 2 _ rfl
 constructor
 · unfold okP
   rw [c0.1, c1.1, c2.1, hc 3 _ rfl, hc 4 _ rfl, hc 5 _ rfl, hc 6 _ rfl, hc 7 _ rfl, hc 8 _ rfl, hc 9 _ rfl, hc 10 _ rfl, hc 11 _ rfl, hc 12 _ rfl, hc 13 _ rfl, hc 14 _ rfl, hc 15 _ rfl, hc 16 _ rfl]
   rfl
 · obtain ⟨_, h1, h2⟩ := c1
   obtain ⟨_, h3, h4⟩ := c2
   unfold rngP
   rw [show (pv W a (j : Int)).a = rdInt W (adP a (j : Int) 1) from rfl, show (pv W a (j : Int)).d = rdInt W (adP a (j : Int) 2) from rfl, decide_eq_true (show 0 ≤ rdInt W (adP a (j : Int) 1) from h1), decide_eq_true (show rdInt W (adP a (j : Int) 1) ≤ 65535 from h2), decide_eq_true (show 0 ≤ rdInt W (adP a (j : Int) 2) from h3), decide_eq_true (show rdInt W (adP a (j : Int) 2) ≤ 255 from h4)]
   rfl
theorem limF3_no {n n' : Nat} (h : limF3 n n' = false) : n ≤ 60 := by
 unfold limF3 at h
 cases hd : decide ((60 : Int) < (n : Int))
 · have := of_decide_eq_false hd
   omega
 · rw [hd] at h
   cases h
end Go.Proofs.YtjmnolhkkpaodaaGreatDoor
