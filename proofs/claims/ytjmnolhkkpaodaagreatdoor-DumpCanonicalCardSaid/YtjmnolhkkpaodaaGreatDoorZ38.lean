/- A part of the proof: the reference is safe, both packages write and read alike. Several texts in one; printed by slim28.py out of the texts of wip. -/
import Derived.Test.YtjmnolhkkpaodaaGreatDoorZ37
set_option linter.all false
namespace Go.Proofs.YtjmnolhkkpaodaaGreatDoor
open Go Go.Sx Go.RowKit
set_option maxRecDepth 100000
def splD (s : ByteArray) : List ByteArray := Lib.splitB spB 0 (Lib.countB s spB) s
theorem splB_len : ∀ (k : Nat) (s : ByteArray), Lib.countB s spB = k → (Lib.splitB spB 0 k s).length = k + 1
 | 0, s, _ => rfl
 | k + 1, s, h => by
  have hne : Lib.indexB s spB ≠ -1 := by
   intro h1
   rw [Lib.countB_miss s spB h1] at h
   omega
  have hge : -1 ≤ Lib.indexB s spB := Lib.index_ge _ _
  obtain ⟨i, hi⟩ : ∃ i : Nat, Lib.indexB s spB = i := ⟨(Lib.indexB s spB).toNat, by omega⟩
  have h2 := Lib.countB_hit s spB i (by decide) hi
  rw [Lib.splitB_hit spB 0 k s i hi, List.length_cons, splB_len k _ (by omega)]
theorem splB_size : ∀ (k : Nat) (s : ByteArray), ∀ x ∈ Lib.splitB spB 0 k s, x.size ≤ s.size
 | 0, s, x, hx => by
  rw [Lib.splitB_zero, List.mem_singleton] at hx
  rw [hx]
  exact Nat.le_refl _
 | k + 1, s, x, hx => by
  unfold Lib.splitB at hx
  split at hx
  · rw [List.mem_singleton] at hx
    rw [hx]
    exact Nat.le_refl _
  · rcases List.mem_cons.1 hx with h | h
    · rw [h, ByteArray.size_extract]
      omega
    · have := splB_size k _ x h
      rw [ByteArray.size_extract] at this
      omega
theorem splD_len (s : ByteArray) : (splD s).length = Lib.countB s spB + 1 := splB_len _ s rfl
theorem countB_le (s : ByteArray) : Lib.countB s spB ≤ s.size := by
 have := Lib.countB_mul_le spB (by decide) s.size s (Nat.le_refl _)
 rw [spB_size, Nat.mul_one] at this
 exact this
theorem splOk (s : ByteArray) (hs : lim3 s = true) : WsOk (splD s) := by
 have h := of_decide_eq_true hs
 have h1 := countB_le s
 exact ⟨by rw [splD_len]; omega, fun x hx => by have := splB_size _ s x hx; omega⟩
noncomputable def ops23w : Array Oper := match bodyOf Tryz.f23 with
 | .seq _ (.seq (.region _ o _) _) => o
 | _ => #[]
noncomputable def op23w : Oper := match ops23w.toList[1]? with
 | some o => o
 | none => op49w
theorem split_ok (W : Bs) : CallOk W Tryz.prog 88 op23w (wordsL splD (fun s => lim3 s && gMax W.W) 12 13) := by
 refine wordsL_ok (ys := [.const (.string spB)]) (r := [.one (.str spB)]) (gf := 51) (by kernel_rfl) (fun _ => rfl) (by kernel_rfl) (by decide) ⟨_, Tryz.func51, by kernel_rfl, by kernel_rfl⟩ fun b w f hb ho => ?_
 rw [Bool.and_eq_true] at hb
 have hsz := of_decide_eq_true hb.1
 refine (Tryz.strings_Split b spB _ w (by omega) (gMax_cell hb.2 ho) (by decide)).mono ?_
 rintro en w' ⟨rfl, rfl⟩
 have hl := splD_len b
 have h1 := countB_le b
 refine ⟨some ⟨w.heap.size, 0, none⟩, Lib.countB b spB + 1, by rw [hl], ?_, below_alloc w _⟩
 have hm : maxLen = 9223372036854775807 := by decide
 refine ⟨by rw [List.length_map, Nat.mul_one], .inr ⟨w.heap.size, Lib.countB b spB + 1, _, rfl, Nat.le_refl _, heap_alloc_at, by omega, by omega, ?_, ?_⟩⟩
 · rw [List.size_toArray, List.length_map, Nat.mul_one]
   exact hl
 · rw [Nat.mul_one]
   exact List.take_of_length_le (by rw [List.length_map]; exact Nat.le_refl _)
theorem step23 {W : Bs} {s : ByteArray} {a : Option Addr} {n c : Nat} (h : RowS W.W a n c) (st x d : Int) : StepOk W Tryz.prog G23 100000 88 .plain lb23 3 ks23 [(0, false), (1, true)] [(0, false), (2, false), (5, false)] [(0, false), (1, true)] (fun v : Nat => v ≤ n) (fun v => n - v) (fun v => SP23 s a n c (v : Int)) (fun v => B23 st x d (orN W.W a fF v)) (fun _ => []) (End23 s st x d (orN W.W a fF n)) := by
 constructor
 intro v hv
 have hr := r23_eq W.W s a n c (v : Int) st x d (orN W.W a fF v)
 have hl := h.lim
 unfold r23 at hr
 rw [hr]
 constructor
 · intro h0
   have h0 : v < n := by have := of_decide_eq_true h0; omega
   refine ⟨?_, .inl ⟨rfl, v + 1, by show v + 1 ≤ n; omega, by show n - (v + 1) < n - v; omega, ?_, rfl, rfl⟩⟩
   · rw [SB.val_sym, inRow_ok h.nil h0, h.at_ v h0]
     rfl
   · rw [gadd_nat (by omega)]
 · intro h0
   have h0 := of_decide_eq_false h0
   have h0 : v = n := by omega
   subst h0
   exact ⟨rfl, .inr ⟨by simp, fun f a w hst e' he' => ⟨he', f, hst⟩⟩⟩
theorem loop23 {W : Bs} {s : ByteArray} {a : Option Addr} {n c : Nat} (hp : ∀ i, W.pin = some i → 0 < 3) (hG : GOk W.W Tryz.prog G23) (cf : Bool) (h : cf = true → RowS W.W a n c) (st x d : Int) : LoopGOk W Tryz.prog 88 lb23 (h23w s a n c st x d fF (orN W.W a fF n) cf) := by
 cases cf with
 | false =>
  unfold h23w
  exact LG.at_no
 | true =>
  unfold h23w
  refine loopG_step (t := .plain) hG (hgB_ok (W := W) (P := Tryz.prog) (nt := 88) .plain lb23 rfl) rfl rfl (step23 (h rfl) st x d) ?_ hp
  intro _
  exact ⟨0, Nat.zero_le _, rfl, rfl, .inl rfl⟩
theorem gok23 (W : World) : GOk W Tryz.prog G23 := gok_cons (num52_ok W) (gok_nil W)
theorem last23_ok (W : Bs) (st x d : Int) (b : FBw) (id : Nat) : CustOk W Tryz.prog 88 (.region id ops23l true) (K23l st x d b) := by
 unfold K23l
 refine custK_ok fun S Bl g f a w hgood hst => ?_
 unfold E23l at hgood ⊢
 split at hgood <;> try exact hgood.elim
 rename_i s v2 v5
 have hc : c23l st x d b v2 v5 Bl = true := by
  have h0 : (SB.sym (c23l st x d b v2 v5 Bl)).val = true := hgood
  rw [SB.val_sym] at h0
  exact h0
 unfold c23l at hc
 simp only [Bool.and_eq_true] at hc
 obtain ⟨h1, h2, h3, h4⟩ := hc
 have e1 := sameTV_eq h1
 have e2 := sameTV_eq h2
 have e3 := sameB_eq h3
 subst e1 e2 e3
 have hsz : ops23l.size = 13 := by kernel_rfl
 refine wp_region_held (S := HoldG W (m23l st x d b) f []) (by kernel_rfl) ?_
 have h0 := hst.drew'
 have h0 : GSt W 88 (S23l s) (M23 st x d b) [] f a { w with drawn := w.drawn + 1 } := h0
 rw [hsz]
 have hQ : ∀ c a w, ¬ GPost W 88 (RG.leaf .nrm (.sym (c23l st x d b (.one (.ptr 0 0)) (.one (.ptr 1 0)) (B23 st x d b))) [(2, .one (.ptr 0 0)), (3, .one (.bool (.sym (okD s (pvB st x d b)))))] ⟨[], [(0, ⟨34, pinsA st x d b, true⟩)], 3⟩ []) (.panic c) a w := fun c a w => gpost_panic
 have hK : ∀ (v : Bool) (g : Gh) (a' : Act) (w' : World), v = okD s (pvB st x d b) → GSt W 88 ((3, .one (.bool (.sym v))) :: SC st x d b v) (M23' st x d b) g f a' w' →
   GPost W 88 (RG.leaf .nrm (.sym (c23l st x d b (.one (.ptr 0 0)) (.one (.ptr 1 0)) (B23 st x d b))) [(2, .one (.ptr 0 0)), (3, .one (.bool (.sym (okD s (pvB st x d b)))))] ⟨[], [(0, ⟨34, pinsA st x d b, true⟩)], 3⟩ []) .normal a' w' := by
  rintro v g a' w' rfl h5
  have h6 : GSt W 88 (pickS (Sx.look ((3, .one (.bool (.sym (okD s (pvB st x d b))))) :: SC st x d b (okD s (pvB st x d b)))) [(2, false), (3, false)]) ⟨[], [(0, ⟨34, pinsA st x d b, true⟩)], 3⟩ g f a' w' :=
   h5.pick (bs := [(0, false)]) (by rfl) (by rfl) (fun i hi => by have := (h5.pin i hi).2; exact this) [(2, false), (3, false)]
  refine ⟨rfl, f, ⟨h6.size, h6.defers, h6.slots, h6.mem, h6.base, h6.fr, h6.pin, ?_, ?_, ?_, ?_⟩⟩
  · intro q o ho; simp at ho
  · intro q o ho; simp at ho
  · intro q o ho; simp at ho
  · intro q q' o p ho; simp at ho
 refine takeN_ok (fuel := 8) (L := [0, 1, 2, 3, 4]) (fun w hw => hw.1) nosel hQ (takeA W.W s st x d b) (holdM h0) h0 ?_
 intro a1 h1
 have hre : ∀ q : Bool, (!(st == 0)) = q → GSt W 88 (SA s st x d b q) (M23 st x d b) [] f a1 { w with drawn := w.drawn + 1 } := by
  intro q hq
  refine h1.reslot fun t v hv hne => ?_
  unfold SA at hv
  rw [lk] at hv
  split at hv
  · rename_i e; subst e
    simp only [Option.some.injEq] at hv
    subst hv
    refine ⟨.one (.bool (.sym (!(st == 0)))), rfl, by simp, ?_⟩
    rw [hq]
    rfl
  · rename_i n81
    refine ⟨v, ?_, hne, rfl⟩
    unfold TA
    rw [lk, if_neg n81, lk]
    rw [lk] at hv
    split at hv
    · rename_i e; subst e; simpa [lk] using hv
    · rename_i n77
      have n80 : ¬ 80 = t := by
       rintro rfl
       simp [lk, Sx.look] at hv
      have n79 : ¬ 79 = t := by
       rintro rfl
       simp [lk, Sx.look] at hv
      have n78 : ¬ 78 = t := by
       rintro rfl
       simp [lk, Sx.look] at hv
      rw [if_neg n80, lk, if_neg n79, lk, if_neg n78, lk, if_neg n77]
      exact hv
 by_cases hz : st = 0
 · refine case0 (hre false (by rw [hz]; rfl)) hQ fun g a' w' h5 => hK false g a' w' ?_ h5
   unfold okD pvB
   rw [hz]
   rfl
 · refine case1 (hre true (by simp [hz])) h4 hQ fun g a' w' h5 => hK _ g a' w' ?_ h5
   unfold okD
   rw [show (pvB st x d b).st = st from rfl, decide_eq_false hz]
   rfl
end Go.Proofs.YtjmnolhkkpaodaaGreatDoor
namespace Go.Proofs.YtjmnolhkkpaodaaGreatDoor
open Go Go.Sx Go.RowKit
set_option maxRecDepth 100000
def orL (ws : List ByteArray) (i : Nat) : Bool := ws.any fun x => sEq (nmi i) x
theorem orN_row {W : World} {a : Option Addr} {n c : Nat} {ws : List ByteArray} (h : RowIsS W a n c ws) (i : Nat) : ∀ v, v ≤ n → orN W a fF v i = orL (ws.take v) i
 | 0, _ => by rw [List.take_zero]; rfl
 | v + 1, hv => by
  have hl : v < ws.length := by rw [h.len]; omega
  have hx : ws[v]? = some ws[v] := List.getElem?_eq_getElem hl
  show (bif sEq (nmi i) (stW W a (v : Int)) then true else orN W a fF v i) = _
  rw [orN_row h i v (by omega), h.val v _ hx, List.take_add_one, hx]
  unfold orL
  rw [List.any_append]
  show _ = ((ws.take v).any (fun x => sEq (nmi i) x) || (sEq (nmi i) ws[v] || false))
  cases sEq (nmi i) ws[v] <;> cases (ws.take v).any (fun x => sEq (nmi i) x) <;> rfl
def fewD (ws : List ByteArray) : Bool := bif decide ((ws.length : Int) < 3) then true else bif !decide (((gw ws 1).size : Int) = 4) then true else !decide (((gw ws 2).size : Int) = 2)
def rdDQ (ws : List ByteArray) : Rq := ⟨stR' ws 10, IntKind.u16.wrap (numD (gw ws 1)), IntKind.u8.wrap (numD (gw ws 2)), fun i => orL (ws.drop 3) i⟩
def Rq.pv (r : Rq) : PinV := pvB r.st r.a r.d r.b
def rdLd (s : ByteArray) : Rq := bif fewD (splD s) then z0 else rdDQ (splD s)
def okLd (s : ByteArray) : Bool := bif fewD (splD s) then false else okD s (rdDQ (splD s)).pv
theorem u16_rng (n : Int) : 0 ≤ IntKind.u16.wrap n ∧ IntKind.u16.wrap n ≤ 65535 := by
 rw [show IntKind.u16.wrap n = n % 65536 from rfl]
 omega
theorem u8_rng (n : Int) : 0 ≤ IntKind.u8.wrap n ∧ IntKind.u8.wrap n ≤ 255 := by
 rw [show IntKind.u8.wrap n = n % 256 from rfl]
 omega
theorem hg23 {w : World} {i : Nat} {s : ByteArray} {a : Option Addr} {n c : Nat} (cf : Bool) (h : cf = true → RowS (hole w i) a n c) (st x d : Int) : HGW (Bs.tail w i) Tryz.prog 88 (t23 s a n c st x d fF (orN (hole w i) a fF n) cf) tl23 := by
 obtain ⟨e, he⟩ : ∃ e : Code × Code × Code × Code × Nat × Nat × Code, tl23 = .seq e.1 (.seq e.2.1 (.seq e.2.2.1 (.seq (.seq e.2.2.2.1 (.block e.2.2.2.2.1 (.loop lb23))) (.seq (.region e.2.2.2.2.2.1 ops23l true) e.2.2.2.2.2.2)))) :=
  ⟨match tl23 with | .seq x1 (.seq x2 (.seq x3 (.seq (.seq x4w (.block i _)) (.seq (.region j _ _) x5)))) => (x1, x2, x3, x4w, i, j, x5) | _ => (.skip, .skip, .skip, .skip, 0, 0, .skip), by kernel_rfl⟩
 constructor
 rw [he]
 exact ⟨trivial, trivial, trivial, ⟨trivial, loop23 (W := Bs.tail w i) (fun _ _ => by omega) (gok23 _) cf h st x d⟩, last23_ok _ _ _ _ _ _, trivial⟩
def LD (c : SB) (v : SB) (bi : BI) : RG := .leaf .ret c [(2, .one (.ptr 0 0)), (3, .one (.bool v))] ⟨[], [(0, bi)], 1⟩ []
def RE23 (s : ByteArray) (ws : List ByteArray) : RG := .br (fewD ws) (LD (.lit true) (.lit false) z34) (LD (.lit true) (.sym (okD s (rdDQ ws).pv)) (BR (rdDQ ws)))
noncomputable def cT23 (s : ByteArray) (ws : List ByteArray) (a : Option Addr) (n c : Nat) (ow : Own) (v0 v2 v3 : TV) (Bl : List (Nat × BI)) : Bool := sameTV v0 (.one (.str s)) && (sameTV v3 (.one (.bool (.lit false))) && cT ws a n c ow v2 Bl)
noncomputable def E23 (s : ByteArray) (ws : List ByteArray) (S : SL) (Bl : List (Nat × BI)) (g : Gh) : RG := match S, g with
 | [(0, v0), (2, v2), (3, v3), (4, .one (.sl a n c))], [ow] => (RE23 s ws).addVc (.sym (cT23 s ws a n c ow v0 v2 v3 Bl))
 | _, _ => .fail
theorem few_row {W : World} {a : Option Addr} {n c : Nat} {ws : List ByteArray} (h : RowIsS W a n c ws) : few23 W a n = fewD ws := by
 unfold few23 fewD
 rw [h.len]
 by_cases hn : (n : Int) < 3
 · rw [decide_eq_true hn]
   rfl
 · rw [decide_eq_false hn, show stW W a 1 = gw ws 1 from (gw_row h (j := 1) (by omega)).1, show stW W a 2 = gw ws 2 from (gw_row h (j := 2) (by omega)).1]
theorem tail23_ok (W : Bs) {s : ByteArray} {ws : List ByteArray} (hws : WsOk ws) : CustOk W Tryz.prog 88 tl23 (custK [(0, false), (2, false), (3, false), (4, false)] [(0, false)] 1 (E23 s ws)) := by
 refine custK_ok fun S Bl g f a w hgood hst => ?_
 unfold E23 at hgood ⊢
 split at hgood <;> try exact hgood.elim
 rename_i v0 v2 v3 sa n c ow
 obtain ⟨hg1, hg2⟩ := RG.good_addVc hgood
 have hc := hg2 (RG.good_is hg1)
 rw [SB.val_sym] at hc
 unfold cT23 cT at hc
 simp only [Bool.and_eq_true] at hc
 obtain ⟨h01, h02, h1, h2, h3⟩ := hc
 obtain ⟨rfl, rfl⟩ := @of_decide_eq_true _ (Classical.propDecidable _) h3
 have e01 := sameTV_eq h01
 have e02 := sameTV_eq h02
 have e1 := sameTV_eq h1
 have e2 := sameB_eq h2
 subst e01 e02 e1 e2
 have hown : w.ownsRow 0 9 1 (.slice sa ws.length c) ws.length (ws.map .string) := by
  have h4 := hst.gh.own 0 _ rfl
  unfold Own.rel at h4
  rw [← strs_den]
  exact h4
 have hoff : ∀ b, sa.map Addr.block = some b → b ≠ f 0 := by
  intro b hb hh
  exact hst.gh.off 0 _ rfl b (by rw [← hb]; exact own_block) 0 z34 (by rw [look_cons, if_pos rfl]) hh.symm
 obtain ⟨haddr, hlc⟩ := own_addr hown
 have hl := hws.len
 have hrow := rowS_own hown rfl (by omega) hoff
 have hcut : 3 ≤ ws.length → RowIsS (hole w (f 0)) (cutA sa c 3 1) (ws.length - 3) (c - 3) (ws.drop 3) := fun hn3 => cutA_row hrow haddr (k := 3) hn3 hlc
 refine wp_mono ?_ (fun e a w hp => RG.is_addVc hp)
 refine tail_wp (t := t23 s (cutA sa c 3 1) (ws.length - 3) (c - 3) (qst (hole w (f 0)) sa 10) (XD (hole w (f 0)) sa) (DD (hole w (f 0)) sa) fF (orN (hole w (f 0)) (cutA sa c 3 1) fF (ws.length - 3)) (decide (3 ≤ ws.length))) hst (gok23 _) (hg23 _ (fun h => (hcut (of_decide_eq_true h)).row) _ _ _) (n := 100000) (ks := []) (ke := [(2, false), (3, false)]) ?_
 have hy := y23_eq (hole w (f 0)) s sa ws.length c (orN (hole w (f 0)) (cutA sa c 3 1) fF (ws.length - 3)) (decide (3 ≤ ws.length))
 unfold y23 S23 at hy
 rw [hy, few_row hrow]
 have hv17 : v17 (hole w (f 0)) sa ws.length = true := by
  unfold v17
  by_cases hn : (ws.length : Int) < 3
  · rw [decide_eq_true hn]
    rfl
  · have i1 := inRow_ok hrow.row.nil (show 1 < ws.length by omega)
    have i2 := inRow_ok hrow.row.nil (show 2 < ws.length by omega)
    have o1 := hrow.row.at_ 1 (by omega)
    have o2 := hrow.row.at_ 2 (by omega)
    rw [decide_eq_false hn, show inRow sa ws.length 1 = true from i1, show inRow sa ws.length 2 = true from i2, show okS (hole w (f 0)) sa 1 = true from o1, show okS (hole w (f 0)) sa 2 = true from o2]
    cases (!decide (((stW (hole w (f 0)) sa 1).size : Int) = 4)) <;> rfl
 constructor
 refine ⟨fun h0 => ?_, fun h0 => ?_⟩
 · refine ⟨by rw [SB.val_sym]; exact hv17, z34, rfl, fun f2 a2 w2 e' he' h5 => ?_⟩
   unfold RE23
   rw [h0]
   exact ⟨fun _ => ⟨he', f2, h5⟩, fun h => by cases h⟩
 · have hn3 : 3 ≤ ws.length := by
    unfold fewD at h0
    by_cases hn : (ws.length : Int) < 3
    · rw [decide_eq_true hn] at h0
      cases h0
    · omega
   have g1 := gw_row hrow (j := 1) (by omega)
   have g2 := gw_row hrow (j := 2) (by omega)
   have hcut := hcut hn3
   have hXr := u16_rng (numD (stW (hole w (f 0)) sa 1))
   have hDr := u8_rng (numD (stW (hole w (f 0)) sa 2))
   have hz : (SB.sym (c23 (hole w (f 0)) s sa ws.length c (orN (hole w (f 0)) (cutA sa c 3 1) fF (ws.length - 3)) (decide (3 ≤ ws.length)))).val = true := by
    have i0 := inRow_ok hrow.row.nil (show 0 < ws.length by omega)
    have i1 := inRow_ok hrow.row.nil (show 1 < ws.length by omega)
    have i2 := inRow_ok hrow.row.nil (show 2 < ws.length by omega)
    have o0 := hrow.row.at_ 0 (by omega)
    have o1 := hrow.row.at_ 1 (by omega)
    have o2 := hrow.row.at_ 2 (by omega)
    have s1 := hws.size _ g1.2
    have s2 := hws.size _ g2.2
    rw [← g1.1] at s1
    rw [← g2.1] at s2
    have l1 : lz (stW (hole w (f 0)) sa 1) = true := decide_eq_true (by have : (stW (hole w (f 0)) sa 1).size ≤ 3000000000 := s1; omega)
    have l2 : lz (stW (hole w (f 0)) sa 2) = true := decide_eq_true (by have : (stW (hole w (f 0)) sa 2).size ≤ 3000000000 := s2; omega)
    have c1 : cA49 (hole w (f 0)) sa ws.length = true := by
     unfold cA49
     rw [show inRow sa ws.length 1 = true from i1, show inRow sa ws.length 2 = true from i2, show okS (hole w (f 0)) sa 1 = true from o1, show okS (hole w (f 0)) sa 2 = true from o2, l1, l2]
     rfl
    have c2 : g0S (hole w (f 0)) sa ws.length 0 = true := by
     unfold g0S
     rw [show inRow sa ws.length 0 = true from i0, show okS (hole w (f 0)) sa 0 = true from o0]
     rfl
    have c3 : k23 (decide (3 ≤ ws.length)) s (cutA sa c 3 1) (ws.length - 3) (c - 3) (qst (hole w (f 0)) sa 10) (XD (hole w (f 0)) sa) (DD (hole w (f 0)) sa) = true := by
     unfold k23
     rw [decide_eq_true hn3, sameS_refl (by rfl), sameB_refl (by rfl), @decide_eq_true _ (Classical.propDecidable _) rfl]
     rfl
    have c4 : c23l (qst (hole w (f 0)) sa 10) (XD (hole w (f 0)) sa) (DD (hole w (f 0)) sa) (orN (hole w (f 0)) (cutA sa c 3 1) fF (ws.length - 3)) (.one (.ptr 0 0)) (.one (.ptr 1 0)) (B23 (qst (hole w (f 0)) sa 10) (XD (hole w (f 0)) sa) (DD (hole w (f 0)) sa) (orN (hole w (f 0)) (cutA sa c 3 1) fF (ws.length - 3))) = true := by
     unfold c23l
     rw [show sameTV (.one (.ptr 0 0)) (.one (.ptr 0 0)) = true from rfl, show sameTV (.one (.ptr 1 0)) (.one (.ptr 1 0)) = true from rfl, sameB_refl (by rfl)]
     unfold rngP pvB
     dsimp only
     unfold XD DD
     rw [decide_eq_true hXr.1, decide_eq_true hXr.2, decide_eq_true hDr.1, decide_eq_true hDr.2]
     rfl
    rw [SB.val_sym]
    unfold c23
    rw [hv17, c1, rep14_ok c2, c3, c4, decide_eq_true (by omega)]
    rfl
   have eb : ∀ i, orN (hole w (f 0)) (cutA sa c 3 1) fF (ws.length - 3) i = (rdDQ ws).b i := by
    intro i
    rw [orN_row hcut i _ (Nat.le_refl _), List.take_of_length_le (by rw [hcut.len]; exact Nat.le_refl _)]
    rfl
   have e1 : qst (hole w (f 0)) sa 10 = (rdDQ ws).st := qst_row hrow hn3 10
   have e2 : XD (hole w (f 0)) sa = (rdDQ ws).a := by unfold XD; rw [show stW (hole w (f 0)) sa 1 = gw ws 1 from g1.1]; rfl
   have e3 : DD (hole w (f 0)) sa = (rdDQ ws).d := by unfold DD; rw [show stW (hole w (f 0)) sa 2 = gw ws 2 from g2.1]; rfl
   refine ⟨hz, BR (rdDQ ws), ?_, fun f2 a2 w2 e' he' h5 => ?_⟩
   · rw [e1, e2, e3, pinsA_ext eb]
     rfl
   · rw [e1, e2, e3, funext eb] at h5
     unfold RE23
     rw [h0]
     exact ⟨fun h => (by cases h), fun _ => ⟨he', f2, h5⟩⟩
noncomputable def t23x (W : World) (s : ByteArray) (ws : List ByteArray) : HG := .seq .plain (.seq (.cust (runCalls Tryz.prog W [] 100000 88 ops23w [⟨1, wordsL splD (fun s => lim3 s && gMax W) 12 13⟩] 0)) (.cust (custK [(0, false), (2, false), (3, false), (4, false)] [(0, false)] 1 (E23 s ws))))
noncomputable def x23w (W : World) (s : ByteArray) (ws : List ByteArray) : RG := (runG Tryz.prog W [] 100000 88 (t23x W s ws) (bodyOf Tryz.f23) (argSlots 0 [.one (.str s)]) noMem []).slim 1 [] [] [(2, false), (3, false)] [(0, false)]
noncomputable def q23 (W : World) (s : ByteArray) (ws : List ByteArray) (a : Option Addr) (c : Nat) : SB := .sym ((lim3 s && gMax W) && cT23 s ws a (splD s).length c ⟨9, 1, a, (splD s).length, c, strs (splD s)⟩ (.one (.str s)) (.one (.ptr 0 0)) (.one (.bool (.lit false))) [(0, z34)])
theorem x23_eq (W : World) (s : ByteArray) (ws : List ByteArray) : x23w W s ws = .any fun a c => .br (fewD ws) (LD (q23 W s ws a c) (.lit false) z34) (LD (q23 W s ws a c) (.sym (okD s (rdDQ ws).pv)) (BR (rdDQ ws))) := by kernel_rfl
theorem hg23x {W : World} {s : ByteArray} {ws : List ByteArray} (hws : WsOk ws) : HGW (Bs.of W) Tryz.prog 88 (t23x W s ws) (bodyOf Tryz.f23) := by
 obtain ⟨e, he⟩ : ∃ e : Code × Nat, bodyOf Tryz.f23 = .seq e.1 (.seq (.region e.2 ops23w false) tl23) :=
  ⟨match bodyOf Tryz.f23 with | .seq x1 (.seq (.region j _ _) _) => (x1, j) | _ => (.skip, 0), by kernel_rfl⟩
 constructor
 rw [he]
 refine ⟨trivial, ?_, tail23_ok _ hws⟩
 refine calls_cust (gok_nil _) (fun c hc => ?_) (by simp)
 simp only [List.mem_cons, List.not_mem_nil, or_false] at hc
 subst hc
 exact callG_of (o := op23w) (by kernel_rfl) (by kernel_rfl) (split_ok (Bs.of W))
theorem q23_ok (W : World) (s : ByteArray) (hs : lim3 s = true) (hm : gMax W = true) (a : Option Addr) (c : Nat) : (q23 W s (splD s) a c).val = true := by
 unfold q23
 rw [SB.val_sym, hs, hm]
 unfold cT23 cT
 rw [show sameTV (.one (.str s)) (.one (.str s)) = true by simp [sameTV, sameSV], show sameTV (.one (.bool (.lit false))) (.one (.bool (.lit false))) = true from rfl, sameTV_self, sameB_refl (by rfl), @decide_eq_true _ (Classical.propDecidable _) ⟨rfl, rfl⟩]
 rfl
theorem read23_calls {W : World} {s : ByteArray} (hs : lim3 s = true) (hm : gMax W = true) : Calls Tryz.prog 23 #[.string s] W fun en w' => en = .returned (.tuple #[.agg (dens (fun _ => 0) (rdLd s).cells), .bool (okLd s)]) ∧ Below W.heap.size W w' := by
 have hn : Tryz.f23.ntmps = 88 := by kernel_rfl
 have hcalls := calls_of_runG (gok_nil W) (n := 100000) (g := 23) Tryz.func23 (show Tryz.f23.body = some (bodyOf Tryz.f23) by kernel_rfl) (t := t23x W s (splD s)) (args := [.one (.str s)]) (by rw [hn]; exact (hg23x (splOk s hs)).h) (by rw [hn]; simp)
  (R := fun v _ => ∃ l q, v = .tup [(true, l), (false, [.bool q])] ∧ (∀ f : Nat → Nat, dens f l = dens (fun _ => 0) (rdLd s).cells) ∧ q.val = okLd s) (N := 1) (ks := []) (bs := []) (ke := [(2, false), (3, false)]) (be := [(0, false)]) rfl rfl ?_
 · refine hcalls.mono ?_
   rintro en w' ⟨v, g, f, ⟨l, q, rfl, hl, hq⟩, rfl, _, hb⟩
   refine ⟨?_, hb⟩
   rw [← hl f, ← hq]
   rfl
 · rw [hn]
   show (x23w W s (splD s)).All _
   rw [x23_eq]
   intro a c
   have hr : rdLd s = bif fewD (splD s) then z0 else rdDQ (splD s) := rfl
   have ho : okLd s = bif fewD (splD s) then false else okD s (rdDQ (splD s)).pv := rfl
   refine ⟨fun h0 => ?_, fun h0 => ?_⟩
   · rw [h0, cond_true] at hr ho
     refine ⟨q23_ok W s hs hm a c, .inr rfl, [(true, z34.init), (false, [.bool (.lit false)])], .tup [(true, z34.init), (false, [.bool (.lit false)])], by kernel_rfl, rfl, z34.init, .lit false, rfl, fun f => ?_, ?_⟩
     · rw [hr]
       rfl
     · rw [ho]
       rfl
   · rw [h0, cond_false] at hr ho
     refine ⟨q23_ok W s hs hm a c, .inr rfl, [(true, (rdDQ (splD s)).cells), (false, [.bool (.sym (okD s (rdDQ (splD s)).pv))])], .tup [(true, (rdDQ (splD s)).cells), (false, [.bool (.sym (okD s (rdDQ (splD s)).pv))])], by kernel_rfl, rfl, (rdDQ (splD s)).cells, .sym (okD s (rdDQ (splD s)).pv), rfl, fun f => ?_, ?_⟩
     · rw [hr]
       rfl
     · rw [ho]
       rfl
def F23 (W : World) : List TV → Option (SB × TV)
 | [.one (.str s)] => some (.sym (lim3 s && gMax W), .tup [(true, (rdLd s).cells), (false, [.bool (.sym (okLd s))])])
 | _ => none
theorem gMax_old {W w : World} (h : gMax W = true) (ho : Old W w) : gMax w = true := by
 have := gMax_cell h ho
 unfold gMax isInt
 rw [this]
 simp
theorem read23_ok (W : World) : SpecOk W Tryz.prog 23 (specV (F23 W)) := by
 refine specV_calls ⟨Tryz.f23, Tryz.func23, by kernel_rfl, by kernel_rfl⟩ fun args c v hv hc => ?_
 unfold F23 at hv
 split at hv <;> try contradiction
 rename_i s
 simp only [Option.some.injEq, Prod.mk.injEq] at hv
 obtain ⟨rfl, rfl⟩ := hv
 rw [SB.val_sym, Bool.and_eq_true] at hc
 refine ⟨by simp, fun w ho f => ?_⟩
 refine (read23_calls (s := s) hc.1 (gMax_old hc.2 ho)).mono ?_
 rintro en w' ⟨rfl, hb⟩
 exact ⟨rfl, hb⟩
end Go.Proofs.YtjmnolhkkpaodaaGreatDoor
namespace Go.Proofs.YtjmnolhkkpaodaaGreatDoor
open Go Go.Sx Go.RowKit
set_option maxRecDepth 100000
noncomputable def lb13 : Code := match bodyOf Tryz.f13 with
 | .seq _ (.seq (.block _ (.loop b)) _) => b
 | _ => .skip
def g13 : GapSp := ⟨3, 32, 34, 35, 22, 34, 17, 32, 0⟩
def hb13 : HG := .seq .plain (.block (.seq .plain (.seq .plain (.seq .plain (.seq .plain (.seq (.gap g13) .plain))))))
def G13 (W : World) : List (Nat × Sx.Spec) := [(22, specV (FCut W)), (23, specV (F23 W))]
def SP13 (s : ByteArray) (oa : Option Addr) (k oc : Nat) (v : Int) : SL := [(0, .one (.str s)), (2, .one (.sl oa k oc)), (3, .one (.int .i64 (.sym v)))]
def ks13 : List (Nat × Bool) := [(0, false), (2, true), (3, true)]
def GP13 (oa : Option Addr) (k oc : Nat) (xs : List SV) : Gh := [⟨34, 17, oa, k, oc, xs⟩]
noncomputable def r13 (W : World) (s : ByteArray) (oa : Option Addr) (k oc : Nat) (xs : List SV) (v : Int) : RG := (runG Tryz.prog W (G13 W) 100000 38 hb13 lb13 (SP13 s oa k oc v) ⟨[], [], 0⟩ (GP13 oa k oc xs)).slim 0 ks13 [] [(2, false), (3, true), (4, true)] []
def bad13 (s : ByteArray) : Bool := bif !cutF s nlB then true else !okLd (cutL s nlB)
def gv32 (oa : Option Addr) (k oc : Nat) : Bool := (decide (oa = oa) && (decide (k = k) && decide (oc = oc))) && (decide (k + 1 ≤ maxLen) && decide ((k + 1) * 32 ≤ 140737488355328))
def l4 (s : ByteArray) : Bool := decide (s.size ≤ 4000000000)
def cA13 (W : World) (s : ByteArray) : Bool := (l4 s && gMax W) && (lim3 (cutL s nlB) && gMax W)
def cB13 (W : World) (s : ByteArray) (oa : Option Addr) (k oc : Nat) : Bool := (l4 s && gMax W) && ((lim3 (cutL s nlB) && gMax W) && gv32 oa k oc)
def X13 (oa : Option Addr) (k oc : Nat) (xs : List SV) (v : Int) : RG := .leaf (.exit 0) (.lit true) [(2, .one (.sl oa k oc)), (3, .one (.int .i64 (.sym v)))] ⟨[], [], 0⟩ (GP13 oa k oc xs)
def R13 (c : SB) (oa : Option Addr) (k oc : Nat) (xs : List SV) (v : Int) : RG := .leaf .ret c [(2, .one (.sl none 0 0)), (3, .one (.int .i64 (.sym v))), (4, .one (.int .i64 (.sym 2)))] ⟨[], [], 0⟩ (GP13 oa k oc xs)
theorem r13_eq (W : World) (s : ByteArray) (oa : Option Addr) (k oc : Nat) (xs : List SV) (v : Int) : r13 W s oa k oc xs v = .br (!sEq s emp) (.br (bad13 s) (R13 (.sym (cA13 W s)) oa k oc xs (gadd .i64 v 1))
  (.any fun a' c' => .leaf .nrm (.sym (cB13 W s oa k oc)) (SP13 (cutR s nlB) a' (k + 1) c' (gadd .i64 v 1)) ⟨[], [], 0⟩ (GP13 a' (k + 1) c' (xs ++ (rdLd (cutL s nlB)).cells)))) (X13 oa k oc xs v) := by kernel_rfl
def cellsL (l : List Rq) : List SV := l.flatMap Rq.cells
theorem cellsL_snoc (l : List Rq) (r : Rq) : cellsL l ++ r.cells = cellsL (l ++ [r]) := by
 unfold cellsL
 rw [List.flatMap_append, List.flatMap_singleton]
theorem cellsL_length (l : List Rq) : (cellsL l).length = l.length * 17 := by
 induction l with
 | nil => rfl
 | cons r l ih =>
  have e : cellsL (r :: l) = r.cells ++ cellsL l := rfl
  rw [e, List.length_append, ih, List.length_cons]
  have : r.cells.length = 17 := rfl
  omega
def pD : Nat → ByteArray → List Rq → Bool × List Rq
 | 0, _, l => (true, l)
 | k + 1, s, l => bif sEq s emp then (true, l) else bif bad13 s then (false, l) else pD k (cutR s nlB) (l ++ [rdLd (cutL s nlB)])
theorem cut_nl (s : ByteArray) : (cutF s nlB = false) ∨ (cutF s nlB = true ∧ ∃ i, i + 1 ≤ s.size ∧ cutL s nlB = s.extract 0 i ∧ cutR s nlB = s.extract (i + 1) s.size ∧ Lib.indexB s nlB = i) := by
 rcases Lib.indexB_cases s nlB with h | ⟨i, h, hi⟩
 · exact .inl (Lib.cutB_miss s nlB h).2.2
 · obtain ⟨h1, h2, h3⟩ := Lib.cutB_hit s nlB i h
   exact .inr ⟨h3, i, hi, h1, h2, h⟩
theorem sEq_emp {s : ByteArray} (h : sEq s emp = false) : 1 ≤ s.size := by
 rw [sEq_eq, decide_eq_false_iff_not] at h
 rcases Nat.eq_zero_or_pos s.size with h0 | h0
 · exfalso
   refine h (ByteArray.ext (Array.toList_inj.1 ?_))
   have : s.data.toList.length = 0 := by rw [Array.length_toList]; exact h0
   rw [List.length_eq_zero_iff.1 this]
   rfl
 · exact h0
theorem bad13_no {s : ByteArray} (h : bad13 s = false) : cutF s nlB = true ∧ okLd (cutL s nlB) = true := by
 unfold bad13 at h
 cases hf : cutF s nlB
 · rw [hf] at h; cases h
 · rw [hf] at h
   exact ⟨rfl, by simpa using h⟩
theorem cutL_le (s : ByteArray) : (cutL s nlB).size ≤ s.size := by
 rcases Lib.indexB_cases s nlB with h | ⟨i, h, hi⟩
 · have : cutL s nlB = s := (Lib.cutB_miss s nlB h).1
   rw [this]
   exact Nat.le_refl _
 · have : cutL s nlB = s.extract 0 i := (Lib.cutB_hit s nlB i h).1
   rw [this, ByteArray.size_extract]
   omega
theorem cutR_lt {s : ByteArray} (h : cutF s nlB = true) : (cutR s nlB).size + 1 ≤ s.size := by
 rcases cut_nl s with h1 | ⟨_, i, h2, _, h3, _⟩
 · rw [h1] at h; cases h
 · rw [h3, ByteArray.size_extract]
   omega
structure Pa where
 l : List Rq
 ln : Int
 er : Int
def paOf (F : Bool × List Rq) : Pa := bif F.1 then ⟨F.2, 0, 0⟩ else ⟨[], ((F.2.length + 1 : Nat) : Int), 2⟩
structure Q13 where
 s : ByteArray
 l : List Rq
 oa : Option Addr
 oc : Nat
structure Inv13 (s : ByteArray) (F : Bool × List Rq) (q : Q13) : Prop where
 le : q.l.length + q.s.size ≤ s.size
 go : ∃ k, q.s.size ≤ k ∧ pD k q.s q.l = F
def End13 (F : Bool × List Rq) : RG := match F.1 with
 | true => .any fun a c => X13 a F.2.length c (cellsL F.2) (F.2.length : Int)
 | false => .leaf .ret (.lit true) [(2, .one (.sl none 0 0)), (3, .one (.int .i64 (.sym ((F.2.length + 1 : Nat) : Int)))), (4, .one (.int .i64 (.sym 2)))] ⟨[], [], 0⟩ []
theorem gv32_ok {oa : Option Addr} {k oc : Nat} (h : (k + 1) * 32 ≤ 140737488355328) : gv32 oa k oc = true := by
 unfold gv32
 have hm : maxLen = 9223372036854775807 := by decide
 simp only [decide_true, Bool.true_and, Bool.and_eq_true, decide_eq_true_eq, Bool.and_self]
 omega
theorem gst_noG {W : Bs} {nt : Nat} {s : SL} {m : Mem} {g : Gh} {f : Nat → Nat} {a : Act} {w : World} (h : GSt W nt s m g f a w) : GSt W nt s m [] f a w := by
 refine ⟨h.size, h.defers, h.slots, h.mem, h.base, h.fr, h.pin, ?_, ?_, ?_, ?_⟩
 · intro q o ho; simp at ho
 · intro q o ho; simp at ho
 · intro q o ho; simp at ho
 · intro q q' o p ho; simp at ho
theorem step13 {W : World} {s : ByteArray} (hs : lim3 s = true) (hm : gMax W = true) (F : Bool × List Rq) : StepOk (W : Bs) Tryz.prog (G13 W) 100000 38 hb13 lb13 0 ks13 [] [(2, false), (3, true), (4, true)] [] (Inv13 s F) (fun q => q.s.size) (fun q => SP13 q.s q.oa q.l.length q.oc (q.l.length : Int)) (fun _ => []) (fun q => GP13 q.oa q.l.length q.oc (cellsL q.l)) (End13 F) := by
 constructor
 rintro ⟨t, l, oa, oc⟩ ⟨hle, k, hk, hF⟩
 have hlim := of_decide_eq_true hs
 dsimp only at hle hk hF ⊢
 have hr := r13_eq W t oa l.length oc (cellsL l) (l.length : Int)
 unfold r13 at hr
 rw [show (Bs.of W).W = W from rfl, hr]
 have hcl := cutL_le t
 have hA : cA13 W t = true := by
  unfold cA13 l4 lim3
  rw [hm, decide_eq_true (by omega), decide_eq_true (by omega)]
  rfl
 refine ⟨fun h0 => ?_, fun h0 => ?_⟩
 · have h1 : sEq t emp = false := by simpa using h0
   have hsz := sEq_emp h1
   obtain ⟨k, rfl⟩ : ∃ k', k = k' + 1 := ⟨k - 1, by omega⟩
   have hF' : (bif sEq t emp then (true, l) else bif bad13 t then (false, l) else pD k (cutR t nlB) (l ++ [rdLd (cutL t nlB)])) = F := hF
   rw [h1, cond_false] at hF'
   have hg := gadd_nat (v := l.length) (by omega)
   refine ⟨fun hb => ?_, fun hb => ?_⟩
   · rw [hb, cond_true] at hF'
     subst hF'
     refine ⟨by rw [SB.val_sym]; exact hA, .inr ⟨by simp, fun f a w hst e' he' => ?_⟩⟩
     rw [hg] at hst
     exact ⟨he', f, gst_noG hst⟩
   · rw [hb, cond_false] at hF'
     obtain ⟨hf, hok⟩ := bad13_no hb
     have hcr := cutR_lt hf
     intro a' c'
     refine ⟨?_, .inl ⟨rfl, ⟨cutR t nlB, l ++ [rdLd (cutL t nlB)], a', c'⟩, ⟨?_, k, by show (cutR t nlB).size ≤ k; omega, hF'⟩, by show (cutR t nlB).size < t.size; omega, ?_, rfl, ?_⟩⟩
     · rw [SB.val_sym]
       unfold cB13 l4 lim3
       rw [hm, decide_eq_true (by omega), decide_eq_true (by omega), gv32_ok (by omega)]
       rfl
     · show (l ++ [rdLd (cutL t nlB)]).length + (cutR t nlB).size ≤ s.size
       rw [List.length_append, List.length_singleton]
       omega
     · rw [hg, List.length_append, List.length_singleton]
     · rw [cellsL_snoc, List.length_append, List.length_singleton]
 · have h1 : sEq t emp = true := by simpa using h0
   have hF' : F = (true, l) := by
    rw [← hF]
    cases k with
    | zero => rfl
    | succ k =>
     show (bif sEq t emp then (true, l) else _) = _
     rw [h1]
     rfl
   subst hF'
   exact ⟨rfl, .inr ⟨by simp, fun f a w hst e' he' => ⟨oa, oc, he', f, hst⟩⟩⟩
noncomputable def h13w (s : ByteArray) (E : RG) : LG := .at_ true ks13 [] 0 (SP13 s none 0 0 0) [] [] E
theorem hgb13 : hgB Tryz.prog 38 hb13 lb13 = true := by kernel_rfl
theorem gok13 (W : World) : GOk W Tryz.prog (G13 W) := gok_cons (cut_ok W) (gok_cons (read23_ok W) (gok_nil W))
def FD (s : ByteArray) : Bool × List Rq := pD s.size s []
def paD (s : ByteArray) : Pa := paOf (FD s)
theorem loop13 {W : World} {s : ByteArray} (hs : lim3 s = true) (hm : gMax W = true) : LoopGOk (W : Bs) Tryz.prog 38 lb13 (h13w s (End13 (FD s))) := by
 refine loopG_step (t := hb13) (gok13 W) (hgB_ok (W := (W : Bs)) (P := Tryz.prog) (nt := 38) hb13 lb13 hgb13) rfl rfl (step13 hs hm (FD s)) ?_
 intro _
 exact ⟨⟨s, [], none, 0⟩, ⟨by show 0 + s.size ≤ s.size; omega, s.size, Nat.le_refl _, rfl⟩, rfl, rfl, .inr ⟨34, 17, rfl⟩⟩
noncomputable def t13 (s : ByteArray) (E : RG) : HG := .seq .plain (.seq (.block (.loop (h13w s E))) .plain)
noncomputable def x13w (W : World) (s : ByteArray) (E : RG) : RG := (runG Tryz.prog W (G13 W) 100000 38 (t13 s E) (bodyOf Tryz.f13) (argSlots 0 [.one (.str s)]) noMem []).slim 0 [] [] [(2, false), (3, true), (4, true)] []
noncomputable def v13 (s : ByteArray) : Bool := true && (sameS (SP13 s none 0 0 0) (SP13 s none 0 0 0) && (sameB [] [] && @decide (([] : Gh) = []) (Classical.propDecidable _)))
def PR3 (c : SB) (a : Option Addr) (n k : Nat) (ln er : Int) (g : Gh) : RG := .leaf .ret c [(2, .one (.sl a n k)), (3, .one (.int .i64 (.sym ln))), (4, .one (.int .i64 (.sym er)))] ⟨[], [], 0⟩ g
theorem x13_t (W : World) (s : ByteArray) (l : List Rq) : x13w W s (End13 (true, l)) = .any fun a c => PR3 (.sym (v13 s)) a l.length c 0 0 (GP13 a l.length c (cellsL l)) := by kernel_rfl
theorem x13_f (W : World) (s : ByteArray) (l : List Rq) : x13w W s (End13 (false, l)) = PR3 (.sym (v13 s)) none 0 0 ((l.length + 1 : Nat) : Int) 2 [] := by kernel_rfl
theorem v13_ok (s : ByteArray) : v13 s = true := by
 unfold v13
 rw [sameS_refl (by rfl), sameB_refl (by rfl), @decide_eq_true _ (Classical.propDecidable _) rfl]
 rfl
def valsL (l : List Rq) : List Value := (cellsL l).map (SV.den fun _ => 0)
def PaC (W : World) (g : FuncId) (s : ByteArray) (p : Pa) : Prop := Calls Tryz.prog g #[.string s] W fun en w' =>
 ∃ a' c', en = .returned (.tuple #[.slice a' p.l.length c', .int .i64 p.ln, .int .i64 p.er]) ∧ w'.ownsRow W.heap.size 34 17 (.slice a' p.l.length c') p.l.length (valsL p.l) ∧ Below W.heap.size W w'
theorem parse13_calls {W : World} {s : ByteArray} (hs : lim3 s = true) (hm : gMax W = true) : PaC W 13 s (paD s) := by
 have hn : Tryz.f13.ntmps = 38 := by kernel_rfl
 have hcalls := calls_of_runG (gok13 W) (n := 100000) (g := 13) Tryz.func13 (show Tryz.f13.body = some (bodyOf Tryz.f13) by kernel_rfl) (t := t13 s (End13 (FD s))) (args := [.one (.str s)]) ?_ (by rw [hn]; simp)
  (R := fun v g => ∃ a' c', v = .tup [(false, [.sl a' (paD s).l.length c']), (false, [.int .i64 (.sym (paD s).ln)]), (false, [.int .i64 (.sym (paD s).er)])] ∧ (g = GP13 a' (paD s).l.length c' (cellsL (paD s).l) ∨ (a' = none ∧ c' = 0 ∧ (paD s).l = []))) (N := 0) (ks := []) (bs := []) (ke := [(2, false), (3, true), (4, true)]) (be := []) rfl rfl ?_
 · refine hcalls.mono ?_
   rintro en w' ⟨v, g, f, ⟨a', c', rfl, hg⟩, rfl, hown, hb⟩
   refine ⟨a', c', rfl, ?_, hb⟩
   rcases hg with rfl | ⟨rfl, rfl, hl⟩
   · exact hown 0 _ rfl
   · rw [hl]
     exact World.ownsRow_nil _ _ _ _
 · have e : HGOk (W : Bs) Tryz.prog Tryz.f13.ntmps (t13 s (End13 (FD s))) (bodyOf Tryz.f13) = (True ∧ LoopGOk (W : Bs) Tryz.prog 38 lb13 (h13w s (End13 (FD s))) ∧ True) := by kernel_rfl
   rw [e]
   exact ⟨trivial, loop13 hs hm, trivial⟩
 · rw [hn]
   show (x13w W s (End13 (FD s))).All _
   have hp : paD s = paOf (FD s) := rfl
   cases hF : FD s with
   | mk ok l =>
    rw [hF] at hp
    cases ok with
    | true =>
     rw [x13_t, hp]
     intro a' c'
     exact ⟨by rw [SB.val_sym, v13_ok], .inr rfl, [(false, [.sl a' l.length c']), (false, [.int .i64 (.sym 0)]), (false, [.int .i64 (.sym 0)])], .tup [(false, [.sl a' l.length c']), (false, [.int .i64 (.sym 0)]), (false, [.int .i64 (.sym 0)])], by kernel_rfl, rfl, a', c', rfl, .inl rfl⟩
    | false =>
     rw [x13_f, hp]
     exact ⟨by rw [SB.val_sym, v13_ok], .inr rfl, [(false, [.sl none 0 0]), (false, [.int .i64 (.sym ((l.length + 1 : Nat) : Int))]), (false, [.int .i64 (.sym 2)])], .tup [(false, [.sl none 0 0]), (false, [.int .i64 (.sym ((l.length + 1 : Nat) : Int))]), (false, [.int .i64 (.sym 2)])], by kernel_rfl, rfl, none, 0, rfl, .inr ⟨rfl, rfl, rfl⟩⟩
end Go.Proofs.YtjmnolhkkpaodaaGreatDoor
namespace Go.Proofs.YtjmnolhkkpaodaaGreatDoor
open Go Go.Sx Go.RowKit
set_option maxRecDepth 100000
def Rq.pw (r : Rq) : PinV := pvB r.st r.a r.d r.b
def bad21 (ln : ByteArray) : Bool := bif decide ((rdLn ln).st = 0) then true else !sEq (rdLn ln).pw.txt ln
end Go.Proofs.YtjmnolhkkpaodaaGreatDoor
