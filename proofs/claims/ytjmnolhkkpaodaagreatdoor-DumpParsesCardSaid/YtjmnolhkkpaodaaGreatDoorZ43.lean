/- A part of the proof: the reference is safe, both packages write and read alike. Several texts in one; printed by slim28.py out of the texts of wip. -/
import Derived.Test.YtjmnolhkkpaodaaGreatDoorZ42
import Derived.Test.YtjmnolhkkpaodaaGreatDoorTie
import Derived.Test.YtjmnolhkkpaodaaGreatDoorCards
import Derived.LaidMore
import Derived.Lay
import Derived.SevenTiedAt
import Derived.Stop.Joined
import Derived.Lib.LaidIn
set_option linter.all false
namespace Go.Proofs.YtjmnolhkkpaodaaGreatDoor
open Go Go.Sx Go.RowKit
set_option maxRecDepth 100000
noncomputable def la7 : Code := match bodyOf Tryz.f7 with
 | .seq _ (.seq _ (.seq _ c)) => c
 | _ => .skip
def S7 (t : ByteArray) (a : Option Addr) (n c : Nat) (ln er : Int) : SL := [(1, .one (.str t)), (2, .one (.sl a n c)), (3, .one (.int .i64 (.sym ln))), (4, .one (.int .i64 (.sym er)))]
noncomputable def y7 (W : World) (t : ByteArray) (a : Option Addr) (n c : Nat) (ln er : Int) : RG := runG Tryz.prog W [] 100000 36 .plain la7 (S7 t a n c ln er) ⟨[], [], 0⟩ []
def eq7 (W : World) (a : Option Addr) : Bool := (rdInt W (adP a 0 0) == 7) && ((rdInt W (adP a 0 1) == 4779) && ((rdInt W (adP a 0 2) == 15) && ((rdBool W (adP a 0 3) == false) && ((rdBool W (adP a 0 4) == false) && ((rdBool W (adP a 0 5) == false) && ((rdBool W (adP a 0 6) == false) && ((rdBool W (adP a 0 7) == false) && ((rdBool W (adP a 0 8) == false) && ((rdBool W (adP a 0 9) == false) && ((rdBool W (adP a 0 10) == false) && ((rdBool W (adP a 0 11) == true) && ((rdBool W (adP a 0 12) == false) && ((rdBool W (adP a 0 13) == true) && ((rdBool W (adP a 0 14) == false) && ((rdBool W (adP a 0 15) == false) && ((rdBool W (adP a 0 16) == false)))))))))))))))))
def lit7 : ByteArray := ⟨#[116, 49, 32, 48, 48, 48, 48, 32, 97, 50, 32, 115, 121, 110, 99, 10, 116, 104, 32, 48, 48, 48, 48, 32, 48, 48, 32, 104, 108, 100, 97, 32, 102, 108, 111, 97, 116, 10]⟩
def val7 (W : World) (t : ByteArray) (a : Option Addr) (n : Nat) (ln er : Int) : Bool := bif sEq t lit7 then (bif decide (er = 0) then (bif decide (ln = 0) then (bif decide ((n : Int) = 1) then eq7 W a else false) else false) else false) else false
def cnd7 (W : World) (t : ByteArray) (a : Option Addr) (n : Nat) (ln er : Int) : Bool := bif sEq t lit7 then (bif decide (er = 0) then (bif decide (ln = 0) then (bif decide ((n : Int) = 1) then inRow a n 0 && okP W a 0 else true) else true) else true) else true
def sOf7 : RG → SL
 | .leaf _ _ s _ _ => s
 | _ => []
def dOf7 : RG → SB
 | .leaf _ v _ _ _ => v
 | _ => .lit false
def mOf7 : RG → Mem
 | .leaf _ _ _ m _ => m
 | _ => noMem
def gOf7 : RG → Gh
 | .leaf _ _ _ _ g => g
 | _ => []
theorem y7_l (W : World) (t : ByteArray) (a : Option Addr) (n c : Nat) (ln er : Int) : y7 W t a n c ln er = .leaf .ret (dOf7 (y7 W t a n c ln er)) (sOf7 (y7 W t a n c ln er)) (mOf7 (y7 W t a n c ln er)) (gOf7 (y7 W t a n c ln er)) := by kernel_rfl
theorem y7_v (W : World) (t : ByteArray) (a : Option Addr) (n c : Nat) (ln er : Int) : Sx.look (sOf7 (y7 W t a n c ln er)) 0 = some (.one (.bool (.sym (val7 W t a n ln er)))) := by kernel_rfl
theorem y7_c (W : World) (t : ByteArray) (a : Option Addr) (n c : Nat) (ln er : Int) : dOf7 (y7 W t a n c ln er) = .sym (cnd7 W t a n ln er) := by kernel_rfl
theorem y7_eq (W : World) (t : ByteArray) (a : Option Addr) (n c : Nat) (ln er : Int) : ∃ s m g, y7 W t a n c ln er = .leaf .ret (.sym (cnd7 W t a n ln er)) s m g ∧ Sx.look s 0 = some (.one (.bool (.sym (val7 W t a n ln er)))) :=
 ⟨_, _, _, (y7_l W t a n c ln er).trans (by rw [y7_c]), y7_v W t a n c ln er⟩
theorem val7_ok {W : World} {t : ByteArray} {a : Option Addr} {n : Nat} {ln er : Int} (ht : t = lit7) (he : er = 0) (hl : ln = 0) (hn : n = 1) (hp : pv W a 0 = kn3.pv) (hr : inRow a n 0 = true) (ho : okP W a 0 = true) : val7 W t a n ln er = true ∧ cnd7 W t a n ln er = true := by
 subst ht he hl hn
 unfold val7 cnd7
 rw [sEq_eq, decide_eq_true rfl, hr, ho]
 refine ⟨?_, rfl⟩
 show eq7 W a = true
 unfold pv at hp
 have e : kn3.pv = ⟨7, 4779, 15, [false, false, false, false, false, false, false, false, true, false, true, false, false, false]⟩ := by kernel_rfl
 rw [e] at hp
 simp only [PinV.mk.injEq, List.cons.injEq, and_true] at hp
 obtain ⟨h1, h2, h3, h4, h5, h6, h7, h8, h9, h10, h11, h12, h13, h14, h15, h16, h17⟩ := hp
 unfold eq7
 rw [h1, h2, h3, h4, h5, h6, h7, h8, h9, h10, h11, h12, h13, h14, h15, h16, h17]
 rfl
noncomputable def c7k (t : ByteArray) (a : Option Addr) (n c : Nat) (ln er : SI) (ow : Own) : Bool := @decide (t = lit7 ∧ ln.val = 0 ∧ er.val = 0 ∧ OwnQ ow a n c ∧ (unC ow.xs).map Rq.pv = [kn3.pv]) (Classical.propDecidable _)
noncomputable def E7 (S : SL) (Bl : List (Nat × BI)) (g : Gh) : RG := match S, g with
 | [(1, .one (.str t)), (2, .one (.sl a n c)), (3, .one (.int .i64 (.sym ln))), (4, .one (.int .i64 (.sym er)))], [ow] => .leaf .ret (.sym (c7k t a n c (.sym ln) (.sym er) ow)) [(0, .one (.bool (.sym true)))] ⟨[], [], 0⟩ []
 | _, _ => .fail
theorem tail7_ok (W : World) (N : Nat) : CustOk (Bs.of W) Tryz.prog 36 la7 (custK [(1, false), (2, false), (3, true), (4, true)] [] N E7) := by
 refine custK_ok fun S Bl g f a w hgood hst => ?_
 unfold E7 at hgood ⊢
 split at hgood <;> try exact hgood.elim
 rename_i t sa n c ln er ow
 have hc : c7k t sa n c (.sym ln) (.sym er) ow = true := by
  have h0 : (SB.sym (c7k t sa n c (.sym ln) (.sym er) ow)).val = true := hgood
  rw [SB.val_sym] at h0
  exact h0
 obtain ⟨h1, h2, h3, h4, h5⟩ := @of_decide_eq_true _ (Classical.propDecidable _) hc
 have hrow := ownQ_row h4 (hst.gh.own 0 ow rfl)
 have hn : n = 1 := by
  have := congrArg List.length h5
  rw [List.length_map, h4.len] at this
  exact this
 obtain ⟨s', m', g', hy, hs'⟩ := y7_eq w t sa n c ln er
 have h2 : ln = 0 := h2
 have h3 : er = 0 := h3
 obtain ⟨r, hr⟩ : ∃ r, unC ow.xs = [r] := by
  have := h4.len
  rw [hn] at this
  exact List.length_eq_one_iff.1 this
 rw [hr] at h5 hrow
 have hat := hrow.at_ 0 r rfl
 have hpv : pv w sa 0 = kn3.pv := hat.2.trans (by simpa using h5)
 obtain ⟨hv, hcn⟩ := val7_ok (n := n) h1 h3 h2 hn hpv (show inRow sa n 0 = true from inRow_ok (v := 0) hrow.nil (by omega)) hat.1
 refine tail0_wp (t := .plain) (n := 100000) hst rfl (gok_nil w) ⟨trivial⟩ ?_
 constructor
 show (y7 w t sa n c ln er).All _
 rw [hy, hcn]
 rw [hv] at hs'
 refine ⟨rfl, fun f2 a2 w2 e' he' h6 => ⟨he', f2, h6.fewer fun k v hk => ?_⟩⟩
 rw [look_cons] at hk
 split at hk
 · rename_i e
   subst e
   rw [hs']
   exact hk
 · simp [Sx.look] at hk
noncomputable def op7k (k i : Nat) : Oper := match (ops7 k).toList[i]? with
 | some o => o
 | none => op49w
def txt7 : ByteArray := ⟨#[116, 119, 32, 49, 50, 97, 98, 32, 48, 102, 32, 114, 100, 32, 115, 111, 100, 10]⟩
noncomputable def t7k (W : World) : HG := .seq .plain (.seq (.cust (runCalls Tryz.prog W [] 100000 36 (ops7 0) [⟨3, fmtK [kn1, kn2] 7 8⟩] 0)) (.seq (.cust (runCalls Tryz.prog W [] 100000 36 (ops7 1) [⟨0, parC paD txt7 (gMax W) 10⟩] 0)) (.cust (custK [(1, false), (2, false), (3, true), (4, true)] [] 1 E7))))
noncomputable def x7k (W : World) : RG := (runG Tryz.prog W [] 100000 36 (t7k W) (bodyOf Tryz.f7) (argSlots 0 []) noMem []).slim 0 [] [] [(0, false)] []
def rL (st x d : Int) (b : Nat → Bool) : List SV := [.int .i64 (.lit st), .int .u16 (.lit x), .int .u8 (.lit d), .bool (.lit (b 0)), .bool (.lit (b 1)), .bool (.lit (b 2)), .bool (.lit (b 3)), .bool (.lit (b 4)), .bool (.lit (b 5)), .bool (.lit (b 6)), .bool (.lit (b 7)), .bool (.lit (b 8)), .bool (.lit (b 9)), .bool (.lit (b 10)), .bool (.lit (b 11)), .bool (.lit (b 12)), .bool (.lit (b 13))]
def I7 : List SV := rL kn1.st kn1.a kn1.d kn1.b ++ rL kn2.st kn2.a kn2.d kn2.b
noncomputable def q7k (W : World) (a : Option Addr) (c : Nat) : Bool := ((@decide (∀ f : Nat → Nat, dens f I7 = (valsL [kn1, kn2]).toArray) (Classical.propDecidable _) && Nat.beq 2 2) && okFm [kn1, kn2]) && (gMax W && c7k (fmtT [kn1, kn2]) a (paD txt7).l.length c (.sym (paD txt7).ln) (.sym (paD txt7).er) ⟨34, 17, a, (paD txt7).l.length, c, cellsL (paD txt7).l⟩)
theorem x7k_eq (W : World) : x7k W = .any fun a c => .leaf .ret (.sym (q7k W a c)) [(0, .one (.bool (.sym true)))] ⟨[], [], 0⟩ [] := by kernel_rfl
theorem lit7_eq : fmtT [kn1, kn2] = lit7 := by kernel_rfl
theorem txt7_eq : D txt7 = fmtL [kn3] := by kernel_rfl
theorem kn3_v : VQ kn3 := ⟨by decide, by decide, by decide, by decide, by decide, by decide⟩
theorem fm7 : okFm [kn1, kn2] = true := by
 refine @decide_eq_true _ (Classical.propDecidable _) ⟨?_, ?_⟩
 · rw [show (fmtL [kn1, kn2]).length = 38 by kernel_rfl]
   decide
 · intro q hq
   simp only [List.mem_cons, List.not_mem_nil, or_false] at hq
   rcases hq with rfl | rfl <;> rfl
theorem q7k_ok {W : World} (hm : gMax W = true) (a : Option Addr) (c : Nat) : q7k W a c = true := by
 obtain ⟨h1, h2, h3⟩ := paD_fmt txt7_eq (fun q hq => by rw [List.mem_singleton] at hq; rw [hq]; exact kn3_v)
 unfold q7k
 have e1 : @decide (∀ f : Nat → Nat, dens f I7 = (valsL [kn1, kn2]).toArray) (Classical.propDecidable _) = true := @decide_eq_true _ (Classical.propDecidable _) (fun f => rfl)
 have e2 : c7k (fmtT [kn1, kn2]) a (paD txt7).l.length c (.sym (paD txt7).ln) (.sym (paD txt7).er) ⟨34, 17, a, (paD txt7).l.length, c, cellsL (paD txt7).l⟩ = true :=
  @decide_eq_true _ (Classical.propDecidable _) ⟨lit7_eq, h2, h3, ownQ_cells _ _ _, by dsimp only; rw [unC_pv, h1]; rfl⟩
 rw [e1, e2, fm7, hm]
 rfl
theorem hg7k (W : World) : HGW (Bs.of W) Tryz.prog 36 (t7k W) (bodyOf Tryz.f7) := by
 obtain ⟨e, he⟩ : ∃ e : Code × Nat × Nat, bodyOf Tryz.f7 = .seq e.1 (.seq (.region e.2.1 (ops7 0) false) (.seq (.region e.2.2 (ops7 1) false) la7)) :=
  ⟨match bodyOf Tryz.f7 with | .seq x1 (.seq (.region i _ _) (.seq (.region j _ _) _)) => (x1, i, j) | _ => (.skip, 0, 0), by kernel_rfl⟩
 constructor
 rw [he]
 refine ⟨trivial, ?_, ?_, tail7_ok W 1⟩
 · refine calls_cust (gok_nil _) (fun c hc => ?_) (by simp)
   rw [List.mem_singleton] at hc
   subst hc
   exact callG_of (o := op7k 0 3) (by kernel_rfl) (by kernel_rfl) (fmtK_ok (gf := 9) (by kernel_rfl) (by kernel_rfl) (by decide) ⟨_, Tryz.func9, by kernel_rfl, by kernel_rfl⟩ fun w a n c h => fmt9_calls h)
 · refine calls_cust (gok_nil _) (fun c hc => ?_) (by simp)
   rw [List.mem_singleton] at hc
   subst hc
   exact callG_of (o := op7k 1 0) (by kernel_rfl) (by kernel_rfl) (parC_ok (gf := 13) (by kernel_rfl) (by kernel_rfl) (by decide) ⟨_, Tryz.func13, by kernel_rfl, by kernel_rfl⟩ fun w hm ho => parse13_calls (by kernel_rfl) (gMax_old hm ho))
theorem known_calls {W : World} (hm : gMax W = true) : Calls Tryz.prog 7 #[] W fun en w' => en = .returned (.bool true) ∧ Below W.heap.size W w' := by
 have hn : Tryz.f7.ntmps = 36 := by kernel_rfl
 have hcalls := calls_of_runG (gok_nil W) (n := 100000) (g := 7) Tryz.func7 (show Tryz.f7.body = some (bodyOf Tryz.f7) by kernel_rfl) (t := t7k W) (args := []) (by rw [hn]; exact (hg7k W).h) (by simp)
  (R := fun v _ => ∃ q, v = .one (.bool q) ∧ q.val = true) (N := 0) (ks := []) (bs := []) (ke := [(0, false)]) (be := []) rfl rfl ?_
 · refine hcalls.mono ?_
   rintro en w' ⟨v, g, f, ⟨q, rfl, hq⟩, rfl, _, hb⟩
   refine ⟨?_, hb⟩
   rw [← hq]
   rfl
 · rw [hn]
   show (x7k W).All _
   rw [x7k_eq]
   intro a c
   exact ⟨by rw [SB.val_sym]; exact q7k_ok hm a c, .inr rfl, [(false, [.bool (.sym true)])], _, by kernel_rfl, rfl, _, rfl, rfl⟩
def F7 (W : World) : List TV → Option (SB × TV)
 | [] => some (.sym (gMax W), .one (.bool (.lit true)))
 | _ => none
theorem known_ok (W : World) : SpecOk W Tryz.prog 7 (specV (F7 W)) := by
 refine specV_calls ⟨Tryz.f7, Tryz.func7, by kernel_rfl, by kernel_rfl⟩ fun args c v hv hc => ?_
 unfold F7 at hv
 split at hv <;> try contradiction
 simp only [Option.some.injEq, Prod.mk.injEq] at hv
 obtain ⟨rfl, rfl⟩ := hv
 rw [SB.val_sym] at hc
 exact ⟨by simp, fun w ho f => known_calls (gMax_old hc ho)⟩
end Go.Proofs.YtjmnolhkkpaodaaGreatDoor
namespace Go.Proofs.YtjmnolhkkpaodaaGreatDoor
open Go Go.Sx Go.RowKit
set_option maxRecDepth 100000
theorem rowOk_old {W w : World} {k : IntKind} {a : Option Addr} {n c : Nat} (h : RowOk W k a n c) (ho : Old W w) : RowOk w k a n c := by
 refine ⟨h.le, h.max, h.nil, fun j hj => ?_⟩
 obtain ⟨h1, h2, h3⟩ := h.at_ j hj
 have hc := ho.cell (isInt_cell h1)
 have e : rdInt w ((a.getD default).add j) = rdInt W ((a.getD default).add j) := by
  conv => lhs; unfold rdInt
  rw [hc]
 refine ⟨?_, by rw [e]; exact h2, by rw [e]; exact h3⟩
 unfold isInt
 rw [hc]
 simp
abbrev MadeL : Type := { l : List Rq // (∀ q ∈ l, VQ q) ∧ l.length ≤ 5000000 }
noncomputable def okScr (W : World) (a : Option Addr) (n c : Nat) : Bool := @decide (RowOk W .i64 a n c) (Classical.propDecidable _)
noncomputable def madG (W : World) (x d : Nat) (s : SL) (m : Mem) (g : Gh) : RG := match Sx.look s x with
 | some (.one (.sl a n c)) => .pick (⟨[], by simp, by simp⟩ : MadeL) fun l => .any fun a' c' => .leaf .nrm (.sym (okScr W a n c)) (putS (some d) (.one (.sl a' l.1.length c')) s) m (g ++ [⟨34, 17, a', l.1.length, c', cellsL l.1⟩])
 | _ => .fail
theorem madG_ok {W : Bs} {nt x d : Nat} {o : Oper} (hc : callOf o = some (.func 8, [.tmp x])) (hdst : o.dst = some d) (hd : d < nt) : CallOk W Tryz.prog nt o (madG W.W x d) := by
 intro s m g f a w Q hgood h
 unfold madG at hgood ⊢
 split at hgood <;> try exact hgood.elim
 rename_i sa n c hx
 have hg0 : (SB.sym (okScr W.W sa n c)).val = true := hgood ⟨[], by simp, by simp⟩ none 0
 rw [SB.val_sym] at hg0
 have hrow := rowOk_old (@of_decide_eq_true _ (Classical.propDecidable _) hg0) h.old
 refine call_wp hc h.slots rfl (l := [.one (.sl sa n c)]) ?_ ⟨_, Tryz.func8, by kernel_rfl, by kernel_rfl⟩ (made_calls hrow) ?_
 · simp only [evalList, evalO, hx]
 · rintro en w' ⟨a', c', l, rfl, hown, hv, hl, hb⟩
   refine ⟨_, rfl, ⟨l, hv, hl⟩, a', c', rfl, f, ?_⟩
   rw [hdst]
   exact h.callOwn hb hd (o := ⟨34, 17, a', l.length, c', cellsL l⟩) hown
end Go.Proofs.YtjmnolhkkpaodaaGreatDoor
namespace Go.Proofs.YtjmnolhkkpaodaaGreatDoor
open Go Go.Sx Go.RowKit
set_option maxRecDepth 100000
def owM (l : List Rq) (a : Option Addr) (c : Nat) : Own := ⟨34, 17, a, l.length, c, cellsL l⟩
noncomputable def kF3 (l : List Rq) (a : Option Addr) (c : Nat) : Bool := okQ (owM l a c) a l.length c && okFm (unC (cellsL l))
theorem fmtOk_of {l l' : List Rq} (h : l'.map Rq.pv = l.map Rq.pv) (hv : ∀ q ∈ l, VQ q) (hl : l.length ≤ 5000000) : FmtOk l' := by
 have e : fmtL l' = (l'.map Rq.pv).flatMap fun p => D p.txt ++ [10] := by unfold fmtL; rw [List.flatMap_map]
 have hlen : l'.length = l.length := by
  have := congrArg List.length h
  simpa using this
 refine ⟨?_, ?_⟩
 · have key : ∀ l : List Rq, (fmtL l).length ≤ 101 * l.length := by
    intro l
    induction l with
    | nil => exact Nat.le_refl _
    | cons q l ih =>
     have e : fmtL (q :: l) = (D q.pv.txt ++ [10]) ++ fmtL l := rfl
     have ht := txt_size q.pv
     rw [e, List.length_append, List.length_append, D_len, List.length_singleton, List.length_cons]
     omega
   have := key l'
   omega
 · intro q hq
   obtain ⟨r, hr, e⟩ := List.mem_map.1 (h ▸ List.mem_map.2 ⟨q, hq, rfl⟩ : q.pv ∈ l.map Rq.pv)
   rw [← e]
   have hv := hv r hr
   unfold rngP
   rw [show r.pv.a = r.a from rfl, show r.pv.d = r.d from rfl, decide_eq_true hv.a1, decide_eq_true hv.a2, decide_eq_true hv.d1, decide_eq_true hv.d2]
   rfl
theorem kF3_ok (l : MadeL) (a : Option Addr) (c : Nat) : kF3 l.1 a c = true := by
 unfold kF3 owM
 rw [okQ_cells]
 exact @decide_eq_true _ (Classical.propDecidable _) (fmtOk_of (unC_pv l.1) l.2.1 l.2.2)
end Go.Proofs.YtjmnolhkkpaodaaGreatDoor
namespace Go.Proofs.YtjmnolhkkpaodaaGreatDoor
open Go Go.Sx Go.RowKit
set_option maxRecDepth 100000
noncomputable def la4 : Code := match bodyOf Tryz.f4 with
 | .seq _ (.seq _ (.seq _ (.seq _ c))) => c
 | _ => .skip
noncomputable def GF4 (W : World) : List (Nat × Sx.Spec) := [(12, specV (F12 W)), (7, specV (F7 W))]
theorem gokF4 (W : World) : GOk W Tryz.prog (GF4 W) := gok_cons (parses_ok W) (gok_cons (known_ok W) (gok_nil W))
def S4 (s : ByteArray) (v : Int) (t : ByteArray) (k : Int) : SL := [(0, .one (.str s)), (3, .one (.int .u8 (.sym v))), (9, .one (.str t)), (10, .one (.int .i64 (.sym k)))]
noncomputable def y4 (W : World) (s : ByteArray) (v : Int) (t : ByteArray) (k : Int) : RG := runG Tryz.prog W (GF4 W) 100000 77 .plain la4 (S4 s v t k) ⟨[], [], 0⟩ []
def le9 (n : Nat) : Bool := decide ((n : Int) ≤ 9223372036854775807)
def inT (t : ByteArray) (k : Int) : Bool := decide (0 ≤ k) && decide (k ≤ (t.size : Int))
def ext0 (t : ByteArray) (k : Int) : ByteArray := t.extract 0 k.toNat
def ext1 (t : ByteArray) (k : Int) : ByteArray := t.extract k.toNat t.size
def mn4 (t : ByteArray) (k : Int) : Int := gmin (gadd .i64 k 1) (t.size : Int)
def cL4 (W : World) (s : ByteArray) (v : Int) (t : ByteArray) (k : Int) : Bool :=
 (lim3 s && gMax W) && (le9 (t.size + s.size) && ((lim3 (catB t s) && gMax W) && (inT t k && ((lim3 (ext0 t k) && gMax W) && (inT t k && (le9 ((ext0 t k).size + (strB [v]).size) && (inT t (mn4 t k) &&
 (le9 ((catB (ext0 t k) (strB [v])).size + (ext1 t (mn4 t k)).size) && ((lim3 (catB (catB (ext0 t k) (strB [v])) (ext1 t (mn4 t k))) && gMax W) && (inT t k && (le9 ((ext0 t k).size + (strB [v]).size) && (inT t k &&
 (le9 ((catB (ext0 t k) (strB [v])).size + (ext1 t k).size) && ((lim3 (catB (catB (ext0 t k) (strB [v])) (ext1 t k)) && gMax W) && gMax W))))))))))))))
theorem y4_l (W : World) (s : ByteArray) (v : Int) (t : ByteArray) (k : Int) : y4 W s v t k = .leaf .ret (dOf7 (y4 W s v t k)) (sOf7 (y4 W s v t k)) (mOf7 (y4 W s v t k)) (gOf7 (y4 W s v t k)) := by kernel_rfl
theorem y4_v (W : World) (s : ByteArray) (v : Int) (t : ByteArray) (k : Int) : Sx.look (sOf7 (y4 W s v t k)) 8 = some (.one (.bool (.lit true))) := by kernel_rfl
theorem y4_c (W : World) (s : ByteArray) (v : Int) (t : ByteArray) (k : Int) : dOf7 (y4 W s v t k) = .sym (cL4 W s v t k) := by kernel_rfl
theorem ext0_size {t : ByteArray} {k : Int} (h1 : k ≤ (t.size : Int)) : (ext0 t k).size = k.toNat := by
 unfold ext0
 rw [ByteArray.size_extract]
 omega
theorem ext1_size {t : ByteArray} {k : Int} : (ext1 t k).size = t.size - k.toNat := by
 unfold ext1
 rw [ByteArray.size_extract]
 omega
theorem strB1_size (v : Int) : (strB [v]).size = 1 := rfl
theorem mn4_in {t : ByteArray} {k : Int} (h0 : 0 ≤ k) (h1 : k ≤ (t.size : Int)) (ht : t.size ≤ 1000000000) : 0 ≤ mn4 t k ∧ mn4 t k ≤ (t.size : Int) := by
 unfold mn4
 have e : gadd .i64 k 1 = k + 1 := by
  have := gadd_nat (v := k.toNat) (by omega)
  rw [show ((k.toNat : Nat) : Int) = k by omega] at this
  rw [this]
  omega
 rw [e]
 unfold gmin
 split <;> omega
theorem inT_ok {t : ByteArray} {k : Int} (h0 : 0 ≤ k) (h1 : k ≤ (t.size : Int)) : inT t k = true := by
 unfold inT
 rw [decide_eq_true h0, decide_eq_true h1]
 rfl
theorem le9_ok {n : Nat} (h : n ≤ 4000000000) : le9 n = true := decide_eq_true (by omega)
theorem lim3_ok {t : ByteArray} (h : t.size ≤ 3000000000) : lim3 t = true := decide_eq_true h
structure Q4 (W : World) (s t : ByteArray) (k : Int) : Prop where
 hs : s.size ≤ 500
 ht : t.size ≤ 1000000000
 k0 : 0 ≤ k
 k1 : k ≤ (t.size : Int)
 g : gMax W = true
theorem cL4_ok {W : World} {s : ByteArray} {v : Int} {t : ByteArray} {k : Int} (h : Q4 W s t k) : cL4 W s v t k = true := by
 obtain ⟨hs, ht, h0, h1, hg⟩ := h
 obtain ⟨h2, h3⟩ := mn4_in h0 h1 ht
 have e0 := ext0_size h1
 have e1 : (ext1 t k).size = t.size - k.toNat := ext1_size
 have e2 : (ext1 t (mn4 t k)).size = t.size - (mn4 t k).toNat := ext1_size
 have eb := strB1_size v
 have ec := catB_size (ext0 t k) (strB [v])
 unfold cL4
 rw [hg, inT_ok h0 h1, inT_ok h2 h3, lim3_ok (t := s) (by omega), le9_ok (n := t.size + s.size) (by omega), lim3_ok (t := catB t s) (by rw [catB_size]; omega), lim3_ok (t := ext0 t k) (by omega), le9_ok (n := (ext0 t k).size + (strB [v]).size) (by omega),
  le9_ok (n := (catB (ext0 t k) (strB [v])).size + (ext1 t (mn4 t k)).size) (by omega), lim3_ok (t := catB (catB (ext0 t k) (strB [v])) (ext1 t (mn4 t k))) (by rw [catB_size]; omega), le9_ok (n := (catB (ext0 t k) (strB [v])).size + (ext1 t k).size) (by omega), lim3_ok (t := catB (catB (ext0 t k) (strB [v])) (ext1 t k)) (by rw [catB_size]; omega)]
 rfl
noncomputable def q4 (W : World) (s t : ByteArray) (k : Int) : Bool := @decide (Q4 W s t k) (Classical.propDecidable _)
noncomputable def E4 (W : World) (S : SL) (_ : List (Nat × BI)) (_ : Gh) : RG := match S with
 | [(0, .one (.str s)), (3, .one (.int .u8 (.sym _))), (9, .one (.str t)), (10, .one (.int .i64 (.sym k)))] => .leaf .ret (.sym (q4 W s t k)) [(8, .one (.bool (.lit true)))] ⟨[], [], 0⟩ []
 | _ => .fail
theorem tail4_ok (W : World) : CustOk (Bs.of W) Tryz.prog 77 la4 (custK [(0, false), (3, false), (9, false), (10, true)] [] 0 (E4 W)) := by
 refine custK_ok fun S Bl g f a w hgood hst => ?_
 unfold E4 at hgood ⊢
 split at hgood <;> try exact hgood.elim
 rename_i s v t k
 have hc : q4 W s t k = true := by
  have h0 : (SB.sym (q4 W s t k)).val = true := hgood
  rw [SB.val_sym] at h0
  exact h0
 have hQ := @of_decide_eq_true _ (Classical.propDecidable _) hc
 have hQ' : Q4 w s t k := ⟨hQ.hs, hQ.ht, hQ.k0, hQ.k1, gMax_old hQ.g hst.old⟩
 refine tail0_wp (t := .plain) (n := 100000) hst rfl (gokF4 w) ⟨trivial⟩ ?_
 constructor
 show (y4 w s v t k).All _
 rw [y4_l, y4_c, cL4_ok hQ']
 refine ⟨rfl, fun f2 a2 w2 e' he' h6 => ⟨he', f2, h6.fewer fun k' v' hk => ?_⟩⟩
 rw [look_cons] at hk
 split at hk
 · rename_i e
   subst e
   rw [y4_v]
   exact hk
 · simp [Sx.look] at hk
noncomputable def opF4 : Array Oper := match bodyOf Tryz.f4 with
 | .seq _ (.seq _ (.seq (.region _ o _) _)) => o
 | _ => #[]
noncomputable def tF4 (W : World) : HG := .seq .plain (.seq .plain (.seq (.cust (runCalls Tryz.prog W (GF4 W) 100000 77 opF4 [⟨1, madG W 20 21⟩, ⟨2, fmtG 21 22 0⟩] 0)) (.seq .plain (.cust (custK [(0, false), (3, false), (9, false), (10, true)] [] 0 (E4 W))))))
noncomputable def xF4 (W : World) (s : ByteArray) (a : Option Addr) (n c : Nat) (i v : Int) : RG := runG Tryz.prog W (GF4 W) 100000 77 (tF4 W) (bodyOf Tryz.f4) (argSlots 0 [.one (.str s), .one (.sl a n c), .one (.int .i64 (.sym i)), .one (.int .u8 (.sym v))]) noMem []
noncomputable def sF4 (W : World) (s : ByteArray) (a : Option Addr) (n c : Nat) (i v : Int) : RG := (xF4 W s a n c i v).slim 0 [] [] [(8, false)] []
def plc4 (x k : Int) : Int := IntKind.i64.wrap ((IntKind.u64.wrap x).tmod (IntKind.u64.wrap k))
def limF4 (s : ByteArray) (n : Nat) : Bool := bif decide ((s.size : Int) > 500) then true else decide ((n : Int) > 200)
noncomputable def tx4 (l : List Rq) : ByteArray := fmtT (unC (cellsL l))
def one4 (t : ByteArray) : Int := gadd .i64 (t.size : Int) 1
noncomputable def cF4 (W : World) (s : ByteArray) (a : Option Addr) (n c : Nat) (i : Int) (l : List Rq) (a1 : Option Addr) (c1 : Nat) : Bool :=
 (okScr W a n c && kF3 l a1 c1) && ((!decide (IntKind.u64.wrap (one4 (tx4 l)) = 0)) && q4 W s (tx4 l) (plc4 i (one4 (tx4 l))))
def LB8 (c : SB) (b : Bool) (g : Gh) : RG := .leaf .ret c [(8, .one (.bool (.lit b)))] ⟨[], [], 0⟩ g
theorem sF4_eq (W : World) (s : ByteArray) (a : Option Addr) (n c : Nat) (i v : Int) : sF4 W s a n c i v = .br (limF4 s n) (LB8 (.sym (gMax W)) true []) (.pick (⟨[], by simp, by simp⟩ : MadeL) fun l => .any fun a1 c1 => LB8 (.sym (cF4 W s a n c i l.1 a1 c1)) true []) := by kernel_rfl
theorem fmtL_size (l : List Rq) : (fmtL l).length ≤ 101 * l.length := by
 induction l with
 | nil => exact Nat.le_refl _
 | cons q l ih =>
  have e : fmtL (q :: l) = (D q.pv.txt ++ [10]) ++ fmtL l := rfl
  have ht := txt_size q.pv
  rw [e, List.length_append, List.length_append, D_len, List.length_singleton, List.length_cons]
  omega
theorem tx4_size (l : MadeL) : (tx4 l.1).size ≤ 505000000 := by
 have h1 : (tx4 l.1).size = (fmtL (unC (cellsL l.1))).length := by
  unfold tx4
  rw [← D_len, D_fmtT]
 have h2 := fmtL_size (unC (cellsL l.1))
 rw [unC_len] at h2
 have := l.2.2
 omega
theorem one4_eq (l : MadeL) : one4 (tx4 l.1) = ((tx4 l.1).size : Int) + 1 := by
 have := gadd_nat (v := (tx4 l.1).size) (by have := tx4_size l; omega)
 unfold one4
 rw [this]
 omega
theorem cF4_ok {W : World} {s : ByteArray} {a : Option Addr} {n c : Nat} {i : Int} (hs : s.size ≤ 500) (hr : RowOk W .i64 a n c) (hm : gMax W = true) (l : MadeL) (a1 : Option Addr) (c1 : Nat) : cF4 W s a n c i l.1 a1 c1 = true := by
 have h1 := one4_eq l
 have h2 := tx4_size l
 have hw : IntKind.u64.wrap (one4 (tx4 l.1)) = ((tx4 l.1).size : Int) + 1 := by
  have hu : ∀ y : Int, IntKind.u64.wrap y = y % 18446744073709551616 := fun y => by simp [IntKind.wrap, IntKind.bits, IntKind.signed]
  rw [h1, hu]
  omega
 have hp := place_range i (one4 (tx4 l.1)) (by rw [h1]; omega) (by rw [h1]; omega)
 have hQ : Q4 W s (tx4 l.1) (plc4 i (one4 (tx4 l.1))) := ⟨hs, by omega, hp.1, by have := hp.2; unfold plc4; omega, hm⟩
 unfold cF4 okScr q4
 rw [kF3_ok, @decide_eq_true _ (Classical.propDecidable _) hr, @decide_eq_true _ (Classical.propDecidable _) hQ, hw, decide_eq_false (by omega)]
 rfl
theorem hgF4 (W : World) : HGW (Bs.of W) Tryz.prog 77 (tF4 W) (bodyOf Tryz.f4) := by
 obtain ⟨e, he⟩ : ∃ e : Code × Code × Nat × Code, bodyOf Tryz.f4 = .seq e.1 (.seq e.2.1 (.seq (.region e.2.2.1 opF4 false) (.seq e.2.2.2 la4))) :=
  ⟨match bodyOf Tryz.f4 with | .seq x1 (.seq x2 (.seq (.region i _ _) (.seq x3 _))) => (x1, x2, i, x3) | _ => (.skip, .skip, 0, .skip), by kernel_rfl⟩
 constructor
 rw [he]
 refine ⟨trivial, trivial, ?_, trivial, tail4_ok W⟩
 refine calls_cust (gokF4 _) (fun c hc => ?_) (by simp)
 simp only [List.mem_cons, List.not_mem_nil, or_false] at hc
 rcases hc with rfl | rfl
 · exact callG_of (o := opF4[1]!) (by kernel_rfl) (by kernel_rfl) (madG_ok (by kernel_rfl) (by kernel_rfl) (by decide))
 · exact callG_of (o := opF4[2]!) (by kernel_rfl) (by kernel_rfl) (fmtG_ok (gf := 10) (by kernel_rfl) (by kernel_rfl) (by decide) ⟨_, Tryz.func10, by kernel_rfl, by kernel_rfl⟩ fun w a n c h => fmt10_calls h)
theorem law4_calls {W : World} {s : ByteArray} {a : Option Addr} {n c : Nat} {i v : Int} (hs : limF4 s n = false → RowOk W .i64 a n c) (hm : gMax W = true) : Calls Tryz.prog 4 #[.string s, .slice a n c, .int .i64 i, .int .u8 v] W fun en w' => en = .returned (.bool true) ∧ Below W.heap.size W w' := by
 have hn : Tryz.f4.ntmps = 77 := by kernel_rfl
 have hcalls := calls_of_runG (gokF4 W) (n := 100000) (g := 4) Tryz.func4 (show Tryz.f4.body = some (bodyOf Tryz.f4) by kernel_rfl) (t := tF4 W) (args := [.one (.str s), .one (.sl a n c), .one (.int .i64 (.sym i)), .one (.int .u8 (.sym v))]) (by rw [hn]; exact (hgF4 W).h) (by rw [hn]; simp)
  (R := fun v _ => ∃ q, v = .one (.bool q) ∧ q.val = true) (N := 0) (ks := []) (bs := []) (ke := [(8, false)]) (be := []) rfl rfl ?_
 · refine hcalls.mono ?_
   rintro en w' ⟨v, g, f, ⟨q, rfl, hq⟩, rfl, _, hb⟩
   refine ⟨?_, hb⟩
   rw [← hq]
   rfl
 · rw [hn]
   show (sF4 W s a n c i v).All _
   rw [sF4_eq]
   refine ⟨fun _ => ?_, fun h0 => ?_⟩
   · exact ⟨by rw [SB.val_sym]; exact hm, .inr rfl, [(false, [.bool (.lit true)])], _, by kernel_rfl, rfl, _, rfl, rfl⟩
   · intro l a1 c1
     refine ⟨?_, .inr rfl, [(false, [.bool (.lit true)])], _, by kernel_rfl, rfl, _, rfl, rfl⟩
     rw [SB.val_sym]
     have h500 : s.size ≤ 500 := by
      unfold limF4 at h0
      cases hd : decide ((s.size : Int) > 500)
      · have := of_decide_eq_false hd
        omega
      · rw [hd] at h0
        cases h0
     exact cF4_ok h500 (hs h0) hm l a1 c1
end Go.Proofs.YtjmnolhkkpaodaaGreatDoor
namespace Go.Proofs.YtjmnolhkkpaodaaGreatDoor
open Go Go.Sx Go.RowKit Go.ChangeShapes Go.WideShapes Go.ChangeAt Go.Deep
set_option maxRecDepth 100000
def laidL : List (String × DataW Unit) := [("unicode/utf8.acceptRanges", Rows.laid_unicode_utf8_acceptRanges), ("unicode/utf8.first", Rows.laid_unicode_utf8_first)]
theorem gMax_of {w : World} (h : w.ShapedOpen Tryz.prog) : gMax w = true := by
 have h0 : ∃ zero, ((begin Tryz.prog (fun _ _ => 0) default).world.heap[0]?).bind Obj.row? = some (zero, 3) ∧ zero.size = 1 := ⟨#[.int .i64 0], by kernel_rfl, rfl⟩
 obtain ⟨zero, h1, h2⟩ := h0
 obtain ⟨cs, hh, hs, hr⟩ := h.1 0 zero 3 (of_decide_eq_true (by kernel_rfl)) h1
 obtain ⟨ts, hts, _, hall⟩ := hr (by kernel_rfl)
 have hts' : Tryz.prog.cellTypes Tryz.prog.depth 3 = some [3] := by kernel_rfl
 rw [hts', Option.some.injEq] at hts
 subst hts
 have h3 : 0 < cs.size := by omega
 obtain ⟨u, hu, hok⟩ := hall 0 cs[0] (by simp [h3])
 have : u = 3 := by simpa using hu.symm
 subst this
 have hcell : w.cell? ⟨0, 0, none⟩ = some cs[0] := by simp [World.cell?, hh, h3]
 have hu3 : Tryz.prog.underlying 3 = some (.int .i64) := by kernel_rfl
 unfold Cell.ok at hok
 rw [hu3] at hok
 unfold gMax isInt
 rw [hcell]
 cases hv : cs[0] <;> rw [hv] at hok <;> first | (obtain ⟨rfl, _⟩ := hok; simp) | simp at hok
theorem law_stepS {C : Checked} {os : Os} {g : FuncId} {f : Func} {s : ChangeSpec} {H : Type} {enc : TypeId × Value → H} {X : World → Prop} (n : Nat)
  (own : ownKnob C.prog.godebug = none) (started : os.Started) (noInit : C.prog.inits.idxOf? g = none) (hfn : C.prog.funcs[g]? = some f)
  (hn : f.params.size = n) (fine : typesFine C.prog f = true) (hvars : s.vars = [])
  (hs : ∀ ds : List (DataW H), ds.length = n → s.fn H ds = { results := [.lit (.bool true)], args := ds })
  (witness : ∃ (w : World) (tape : Tape) (i : Input), w.os = os ∧ (w.forCall tape i).Shaped C.prog ∧ i.vars = [] ∧ Input.okWide C.prog (w.forCall tape i) .any w.heap.size g i ∧
   ((s.pre enc C.prog f [] false (w.forCall tape i).memory i.args ∧ X (w.forCall tape i).memory) ∧ sizedMet enc C.prog f (OpenSpec.ofChange s) false (w.forCall tape i).memory i.args) ∧ ({} : Assume).holds C.prog (lone (Frame.enter C.prog g i.args .normal) [] (w.forCall tape i)))
  (walk : ∀ (W : World) (base : Nat) (args : Array Value), W.ShapedOpen C.prog → (∀ (j : Nat) t v, f.params.toList[j]? = some t → args.toList[j]? = some v → Value.okWide C.prog W .any base t v) → args.toList.length = f.params.toList.length →
   ∀ (ds : List (DataW H)) (ps : List MemPlace), DataW.TrodAll enc C.prog W 0 (fun _ => true) true f.params.toList args.toList ds ps →
   Calls C.prog g args W fun e W' => e = .returned (.bool true) ∧ Below W.heap.size W W') :
  ReturnsInHanded {} C os g .any (fun w args => (s.pre enc C.prog f [] false w args ∧ X w) ∧ sizedMet enc C.prog f (OpenSpec.ofChange s) false w args) (s.post enc C.prog f false true false false) := by
 simp only [typesFine, Bool.and_eq_true, List.all_eq_true, decide_eq_true_eq] at fine
 obtain ⟨⟨hl, hts⟩, hres⟩ := fine
 refine returnsInHanded_of_calls own started noInit witness ?_
 intro w tape i _ hshape _ hok hpre _
 obtain ⟨_, _, _, fn', hfn', _, _, _, _, hval⟩ := hok
 obtain rfl : fn' = f := Option.some.inj (hfn'.symm.trans hfn)
 obtain ⟨⟨⟨ds, gs, before, hw, _⟩, _⟩, _⟩ := hpre
 have hW := DataW.Whole.of_heap (w' := w.forCall tape i) (by rfl) hw
 have hW' := hW
 obtain ⟨p, q, hA, hV, rfl, hfz, hnd⟩ := hW
 rw [hvars] at hV
 obtain ⟨rfl, rfl⟩ := trodVars_none hV
 have hlen := trodAll_length _ _ _ _ hA
 have hdn : ds.length = n := by rw [hlen.2, ← hn]; simp
 have hcalls := walk (w.forCall tape i) w.heap.size i.args hshape (fun j t v hj hv => hval j t v (by simpa using hj) (by simpa using hv)) hlen.1 ds p hA
 refine hcalls.mono fun e W' ⟨he, hb⟩ => ?_
 subst he
 refine ChangeSpec.post_blind ⟨ds, [], p ++ [], [], p, [], hW', ?_, ?_, ?_, hb.frame _, fun h => by cases h⟩
 · rw [List.append_nil, hs ds hdn]
   split at hres
   · next t ht =>
     split at hres
     · next hu =>
       have hsz : fn'.resultTypes.size = 1 := by
        have := congrArg List.length ht
        simpa using this
       rw [ht, hsz]
       exact trodAll_cons_mk (shut_bool hu true) trodAll_mk0
     · exact absurd hres (by decide)
   · exact absurd hres (by decide)
 · rw [List.append_nil, hs ds hdn]
   exact trodAll_below hl hb _ _ _ _ (fun t ht => by simpa using hts t ht) hA fun x hx => hW'.lt x (by simpa using hx)
 · rw [hvars, List.append_nil, hs ds hdn]
   trivial
theorem own : ownKnob Tryz.prog.godebug = none := by kernel_rfl
theorem laid_met (os : Os) (args : Array Value) : laidMetH Tryz.prog laidL ((World.laidAll Tryz.prog os laidL).forCall (fun _ _ => 0) ⟨#[], args, []⟩).memory := by
 rw [MakeChecks.laidMetH_plain _ _ _ (by kernel_rfl)]
 exact laidMet_laidAll _ (by kernel_rfl) (by kernel_rfl)
theorem ok_int {W : World} {r : Reach} {base : Nat} {t : TypeId} {k : IntKind} {v : Value} (ht : Tryz.prog.underlying t = some (.int k)) (h : Value.okWide Tryz.prog W r base t v) : ∃ n, v = .int k n ∧ k.min ≤ n ∧ n ≤ k.max := by
 have hf : (CSh.int k).fits Tryz.prog t = true := by
  unfold CSh.fits
  rw [ht]
  exact decide_eq_true rfl
 have h' : Cell.okWide Tryz.prog W r base t v := by
  unfold Value.okWide at h
  rw [ht] at h
  exact h
 rcases cell_one hf h' with ⟨k', n, h1 | h1, h2, h3, h4⟩ | ⟨b, h1 | h1, h2⟩
 · cases h1
   exact ⟨n, h2, h3, h4⟩
 · cases h1
 · cases h1
 · cases h1
theorem ok_str {W : World} {r : Reach} {base : Nat} {t : TypeId} {v : Value} (ht : Tryz.prog.underlying t = some .string) (h : Value.okWide Tryz.prog W r base t v) : ∃ s, v = .string s := by
 unfold Value.okWide Cell.okWide Cell.ok at h
 rw [ht] at h
 cases v <;> try exact h.elim
 exact ⟨_, rfl⟩
theorem ok_ints {H : Type} {enc : TypeId × Value → H} {W : World} {r : Reach} {base : Nat} {v : Value} (h : Value.okWide Tryz.prog W r base 23 v) {d : DataW H} {ps : List MemPlace} (hd : DataW.Trod enc Tryz.prog W 0 (fun _ => true) true 23 v d ps) : ∃ a n c, v = .slice a n c ∧ RowOk W .i64 a n c := by
 obtain ⟨h1, h2, _⟩ := args_open (P := Tryz.prog) (r := r) (base := base) [23] [.ints .i64] [v] [] (by kernel_rfl) rfl
  (fun j t u ht hu => by
   match j, ht, hu with
   | 0, ht, hu => cases ht; cases hu; exact h)
  (fun j t u ht hu => by
   match j, ht, hu with
   | 0, ht, hu => cases ht; cases hu; exact ⟨d, ps, hd⟩)
 exact ⟨_, _, _, by simpa [argsTV, TV.den, SV.den] using h1, h2⟩
end Go.Proofs.YtjmnolhkkpaodaaGreatDoor
