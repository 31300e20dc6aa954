/- A part of the proof: the reference is safe, both packages write and read alike. Several texts in one; printed by slim28.py out of the texts of wip. -/
import Derived.Test.YtjmnolhkkpaodaaGreatDoorZ36
import Derived.Laws.AppendOwn
set_option linter.all false
namespace Go.Sx
open Go Go.RowKit
set_option maxRecDepth 100000
def Bs.tail (w : World) (i : Nat) : Bs := ⟨hole w i, w, (· = i), ⟨hole_old w i, fun _ hj => hj ▸ hole_free w i⟩, some i⟩
theorem look_one {bi j : BI} {b : Nat} (h : look [(0, bi)] b = some j) : b = 0 ∧ j = bi := by
 rw [look_cons] at h
 split at h
 · rename_i hb
   simp only [Option.some.injEq] at h
   exact ⟨hb.symm, h.symm⟩
 · simp [look, findC] at h
section
variable {W : Bs} {P : Program} {G : List (Nat × Spec)} {nt : Nat} {f : Nat → Nat} {a : Act} {w : World}
theorem GSt.tail {S : SL} {bi : BI} {g : Gh} (h : GSt W nt S ⟨[], [(0, bi)], 1⟩ g f a w) : GSt (Bs.tail w (f 0)) nt S ⟨[], [(0, bi)], 1⟩ [] f a w := by
 refine ⟨h.size, h.defers, h.slots, h.mem, ?_, ⟨rfl, rfl, rfl, Nat.le_refl _, fun _ _ _ => rfl, (Bs.tail w (f 0)).base⟩, ?_, ?_, ?_, ?_, ?_⟩
 · intro b j hj
   obtain ⟨rfl, _⟩ := look_one hj
   exact .inr rfl
 · intro i hi
   simp only [Bs.tail, Option.some.injEq] at hi
   exact ⟨hi, Nat.zero_lt_one⟩
 · intro q o ho; simp at ho
 · intro q o ho; simp at ho
 · intro q o ho; simp at ho
 · intro q q' o p ho; simp at ho
theorem GSt.untail {S S' : SL} {bi bi' : BI} {g g' : Gh} (h : GSt W nt S ⟨[], [(0, bi)], 1⟩ g f a w) {f2 : Nat → Nat} {a2 : Act} {w2 : World} (h2 : GSt (Bs.tail w (f 0)) nt S' ⟨[], [(0, bi')], 1⟩ g' f2 a2 w2) : GSt W nt S' ⟨[], [(0, bi')], 1⟩ [] f2 a2 w2 := by
 have hp : f2 0 = f 0 := (h2.pin (f 0) rfl).1
 have hb0 : W.w0.heap.size ≤ f 0 ∨ W.X (f 0) := h.base 0 bi (by rw [look_cons, if_pos rfl])
 refine ⟨h2.size, h2.defers, h2.slots, h2.mem, ?_, ?_, ?_, ?_, ?_, ?_, ?_⟩
 · intro b j hj
   obtain ⟨rfl, _⟩ := look_one hj
   rw [hp]
   exact hb0
 · have h1 := h.fr
   have h3 := h2.fr
   refine ⟨h3.os.trans h1.os, h3.tape.trans h1.tape, h3.output.trans h1.output, Nat.le_trans h1.size h3.size, fun i hi hx => ?_, h1.base⟩
   have hne : i ≠ f 0 := by
    rintro rfl
    rcases hb0 with h4 | h4
    · omega
    · exact hx h4
   exact (h3.same i (Nat.lt_of_lt_of_le hi h1.size) hne).trans (h1.same i hi hx)
 · intro i hi
   rw [hp]
   exact ⟨(h.pin i hi).1, Nat.zero_lt_one⟩
 · intro q o ho; simp at ho
 · intro q o ho; simp at ho
 · intro q o ho; simp at ho
 · intro q q' o p ho; simp at ho
theorem tail_wp {n : Nat} {t : HG} {c : Code} {S : SL} {bi : BI} {g : Gh} (hst : GSt W nt S ⟨[], [(0, bi)], 1⟩ g f a w) (hG : GOk (hole w (f 0)) P G) (ht : HGW (Bs.tail w (f 0)) P nt t c) {ks ke : List (Nat × Bool)} {E : RG}
  (hres : AllW ((runG P (hole w (f 0)) G n nt t c S ⟨[], [(0, bi)], 1⟩ []).slim 1 ks [(0, false)] ke [(0, false)]) fun e vc s m _ => vc.val = true ∧ ∃ b', m = ⟨[], [(0, b')], 1⟩ ∧
   ∀ f2 a2 w2 e', exOf e = some e' → GSt W nt s ⟨[], [(0, b')], 1⟩ [] f2 a2 w2 → GPost W nt E e' a2 w2) : c.wp P (GPost W nt E) a w := by
 have hgd := RG.All.good (fun _ _ _ _ _ h => h.1) hres.h
 have hpn : ∀ i, (Bs.tail w (f 0)).pin = some i → 0 < 1 := fun _ _ => Nat.zero_lt_one
 refine wp_mono (runG_sound (W := Bs.tail w (f 0)) hG t c _ _ _ _ _ w ht.h (slim_good hgd) hst.tail) ?_
 intro e a2 w2 hp
 have hp2 := slim_post hpn (by rfl) (by rfl) hgd hp
 obtain ⟨ex, vc, s, m, g2, ⟨_, b', rfl, hk⟩, hex, f2, hst2⟩ := RG.All.meet hres.h hp2
 exact hk f2 a2 w2 e hex (hst.untail hst2)
end
end Go.Sx
namespace Go.Proofs.YtjmnolhkkpaodaaGreatDoor
open Go Go.Sx Go.RowKit
set_option maxRecDepth 100000
structure RowIsS (W : World) (a : Option Addr) (n c : Nat) (ws : List ByteArray) : Prop where
 row : RowS W a n c
 len : ws.length = n
 val : ∀ (j : Nat) x, ws[j]? = some x → stW W a (j : Int) = x
theorem stA_at (g o : Nat) (j : Nat) : stA (some ⟨g, o, none⟩) (j : Int) = (⟨g, o, none⟩ : Addr).add j := by
 unfold stA atRow
 rw [Addr.add_add]
 show (⟨g, o, none⟩ : Addr).add (((j : Int).toNat) * 1 + 0) = _
 rw [Int.toNat_natCast, Nat.mul_one, Nat.add_zero]
theorem rowS_cells {w : World} {g o n c : Nat} {ws : List ByteArray} (hn : n ≤ 4000000000) (hlen : ws.length = n) (h : ∀ (j : Nat) x, ws[j]? = some x → w.cell? ((⟨g, o, none⟩ : Addr).add j) = some (.string x)) : RowIsS w (some ⟨g, o, none⟩) n c ws := by
 have key : ∀ (j : Nat) x, ws[j]? = some x → okS w (some ⟨g, o, none⟩) j = true ∧ stW w (some ⟨g, o, none⟩) j = x := by
  intro j x hx
  have hc := h j x hx
  unfold okS stW isStr rdStr
  rw [stA_at, hc]
  exact ⟨rfl, rfl⟩
 refine ⟨⟨hn, (by simp), fun j hj => ?_⟩, hlen, fun j x hx => (key j x hx).2⟩
 exact (key j _ (List.getElem?_eq_getElem (by omega))).1
theorem add_at (g o j : Nat) : (⟨g, o, none⟩ : Addr).add j = ⟨g, o + j, none⟩ := by
 unfold Addr.add
 cases j with
 | zero => rfl
 | succ j => simp
theorem rowS_nil (w : World) (c : Nat) : RowIsS w none 0 c [] := ⟨⟨by omega, fun _ => rfl, fun j hj => by omega⟩, rfl, fun j x hx => by simp at hx⟩
theorem rowS_own {w : World} {base i : Nat} {a : Option Addr} {k c : Nat} {ws : List ByteArray} (h : w.ownsRow base 9 1 (.slice a k c) k (ws.map .string)) (hlen : ws.length = k) (hk : k ≤ 4000000000) (hi : ∀ b, a.map Addr.block = some b → b ≠ i) : RowIsS (hole w i) a k c ws := by
 have hcases : (a = none ∧ k = 0) ∨ ∃ g, a = some ⟨g, 0, none⟩ := by
  rcases h.2 with ⟨h1, _⟩ | ⟨g, cap, cur, h1, _⟩
  · injection h1 with h1 h2 h3
    exact .inl ⟨h1, h2⟩
  · injection h1 with h1 h4 h5
    exact .inr ⟨g, h1⟩
 rcases hcases with ⟨rfl, rfl⟩ | ⟨g, rfl⟩
 · rw [List.length_eq_zero_iff.1 hlen]
   exact rowS_nil _ _
 · refine rowS_cells hk hlen fun j x hx => ?_
   rw [hole_cell (by rw [add_at]; exact hi g rfl)]
   exact h.cells rfl j _ (by rw [List.getElem?_map, hx]; rfl)
def memL (s : ByteArray) (l : List ByteArray) : Bool := l.any fun x => sEq x s
theorem cutA_row {W : World} {a : Option Addr} {n c : Nat} {ws : List ByteArray} (h : RowIsS W a n c ws) (ha : ∀ q, a = some q → ∃ g, q = ⟨g, 0, none⟩) {k : Nat} (hk : k ≤ n) (hc : n ≤ c) : RowIsS W (cutA a c k 1) (n - k) (c - k) (ws.drop k) := by
 have hlen : (ws.drop k).length = n - k := by rw [List.length_drop, h.len]
 have hlim := h.row.lim
 unfold cutA
 split
 · rename_i hck
   have hn0 : n - k = 0 := by omega
   rw [hn0] at hlen ⊢
   rw [List.length_eq_zero_iff.1 hlen]
   exact ⟨⟨by omega, fun _ => rfl, fun j hj => by omega⟩, rfl, fun j x hx => by simp at hx⟩
 · cases a with
   | none =>
    have := h.row.nil rfl
    have hn0 : n - k = 0 := by omega
    rw [hn0] at hlen ⊢
    rw [List.length_eq_zero_iff.1 hlen]
    exact rowS_nil _ _
   | some q =>
    obtain ⟨g, rfl⟩ := ha q rfl
    show RowIsS W (some ((⟨g, 0, none⟩ : Addr).add (k * 1))) _ _ _
    have e : (⟨g, 0, none⟩ : Addr).add (k * 1) = ⟨g, k, none⟩ := by
     rw [Nat.mul_one, add_at, Nat.zero_add]
    rw [e]
    refine rowS_cells (by omega) hlen fun j x hx => ?_
    rw [List.getElem?_drop] at hx
    have h1 := h.val _ x hx
    have hj : k + j < n := by
     rw [← h.len]
     exact (List.getElem?_eq_some_iff.1 hx).1
    have h2 := isStr_cell (h.row.at_ (k + j) hj)
    have e2 : (⟨g, k, none⟩ : Addr).add j = (⟨g, 0, none⟩ : Addr).add (k + j) := by
     rw [add_at, add_at, Nat.zero_add]
    rw [e2, ← stA_at, h2, ← h1]
    rfl
end Go.Proofs.YtjmnolhkkpaodaaGreatDoor
namespace Go.Proofs.YtjmnolhkkpaodaaGreatDoor
open Go Go.Sx Go.RowKit
set_option maxRecDepth 100000
def fb14 : List SV := [.bool (.lit false), .bool (.lit false), .bool (.lit false), .bool (.lit false), .bool (.lit false), .bool (.lit false), .bool (.lit false), .bool (.lit false), .bool (.lit false), .bool (.lit false), .bool (.lit false), .bool (.lit false), .bool (.lit false), .bool (.lit false)]
def z34 : BI := ⟨34, [.int .i64 (.lit 0), .int .u16 (.lit 0), .int .u8 (.lit 0)] ++ fb14, true⟩
def s49 (W : World) (a : Option Addr) (i st : Int) : Int := bif sEq (stN i) (stW W a 0) then i else st
def g0S (W : World) (a : Option Addr) (n : Nat) (j : Int) : Bool := inRow a n j && okS W a j
def qst (W : World) (a : Option Addr) : Nat → Int
 | 0 => 0
 | k + 1 => s49 W a ((k + 1 : Nat) : Int) (qst W a k)
theorem LG.at_no {W : Bs} {nt : Nat} {body : Code} {ks bs : List (Nat × Bool)} {N : Nat} {S0 : SL} {B0 : List (Nat × BI)} {g0 : Gh} {End : RG} : LoopGOk W Tryz.prog nt body (LG.at_ false ks bs N S0 B0 g0 End) := by
 intro S Bl g f a w hgood hst
 obtain ⟨h1, h2⟩ := RG.good_addVc hgood
 have h3 := h2 (RG.good_is h1)
 rw [SB.val_sym] at h3
 cases h3
def lz (s : ByteArray) : Bool := decide (s.size ≤ 4000000000)
def cA49 (W : World) (a : Option Addr) (n : Nat) : Bool := inRow a n 1 && (okS W a 1 && (lz (stW W a 1) && (inRow a n 2 && (okS W a 2 && lz (stW W a 2)))))
def rep14 (X : Bool) : Nat → Bool
 | 0 => X
 | k + 1 => X && rep14 X k
end Go.Proofs.YtjmnolhkkpaodaaGreatDoor
namespace Go.Proofs.YtjmnolhkkpaodaaGreatDoor
open Go Go.Sx Go.RowKit
set_option maxRecDepth 100000
def wordsL (ws : ByteArray → List ByteArray) (c : ByteArray → Bool) (x d : Nat) (s : SL) (m : Mem) (g : Gh) : RG := match Sx.look s x with
 | some (.one (.str b)) => .any fun a k => .leaf .nrm (.sym (c b)) (putS (some d) (.one (.sl a (ws b).length k)) s) m (g ++ [⟨9, 1, a, (ws b).length, k, strs (ws b)⟩])
 | _ => .fail
theorem strs_den (l : List ByteArray) : (strs l).map (SV.den fun _ => 0) = l.map .string := by unfold strs; rw [List.map_map]; rfl
theorem wordsL_ok {W : Bs} {nt gf x d : Nat} {ws : ByteArray → List ByteArray} {c : ByteArray → Bool} {o : Oper} {ys : List Operand} {r : List TV} (hc : callOf o = some (.func gf, .tmp x :: ys)) (hys : ∀ S, evalList S ys = some r) (hdst : o.dst = some d) (hd : d < nt)
  (hfn : ∃ fn, Tryz.prog.funcs[gf]? = some fn ∧ (fn.name == "runtime.NumGoroutine") = false ∧ fn.body.isNone = false)
  (hk : ∀ (b : ByteArray) (w : World) (f : Nat → Nat), c b = true → Old W.W w → Calls Tryz.prog gf ((TV.one (.str b) :: r).map (TV.den f)).toArray w fun en w' => ∃ a' c', en = .returned (.slice a' (ws b).length c') ∧ w'.ownsRow w.heap.size 9 1 (.slice a' (ws b).length c') (ws b).length ((ws b).map .string) ∧ Below w.heap.size w w') :
  CallOk W Tryz.prog nt o (wordsL ws c x d) := by
 intro s m g f a w Q hgood h
 unfold wordsL at hgood ⊢
 split at hgood <;> try exact hgood.elim
 rename_i b hx
 have hg0 := hgood none 0
 simp only [RG.Good, SB.val_sym] at hg0
 refine call_wp hc h.slots rfl (l := .one (.str b) :: r) ?_ hfn (hk b w f hg0 h.old) ?_
 · simp only [evalList, evalO, hx, hys]
 · rintro en w' ⟨a', c', rfl, hown, hb⟩
   refine ⟨_, rfl, a', c', rfl, f, ?_⟩
   rw [hdst]
   refine h.callOwn hb hd (o := ⟨9, 1, a', (ws b).length, c', strs (ws b)⟩) ?_
   show w'.ownsRow w.heap.size 9 1 (.slice a' (ws b).length c') (ws b).length ((strs (ws b)).map (SV.den fun _ => 0))
   rw [strs_den]
   exact hown
def lim3 (s : ByteArray) : Bool := decide (s.size ≤ 3000000000)
noncomputable def ops49w : Array Oper := match bodyOf Tryz.f49 with
 | .seq _ (.seq (.region _ o _) _) => o
 | _ => #[]
noncomputable def op49w : Oper := match ops49w.toList[1]? with
 | some o => o
 | none => { dst := none, op := .move (.const (.bool true)), type := 0, pos := "", after := #[], guard := none }
structure Rq where
 st : Int
 a : Int
 d : Int
 b : FBw
def Rq.cells (r : Rq) : List SV := pinsA r.st r.a r.d r.b
def gw (ws : List ByteArray) (j : Nat) : ByteArray := (ws[j]?).getD emp
def stR' (ws : List ByteArray) : Nat → Int
 | 0 => 0
 | k + 1 => bif sEq (stN ((k + 1 : Nat) : Int)) (gw ws 0) then ((k + 1 : Nat) : Int) else stR' ws k
def few (ws : List ByteArray) : Bool := decide ((ws.length : Int) < 3)
def z0 : Rq := ⟨0, 0, 0, fun _ => false⟩
def rdQ (ws : List ByteArray) : Rq := ⟨stR' ws 10, IntKind.u16.wrap (numR (gw ws 1)), IntKind.u8.wrap (numR (gw ws 2)), fun i => memL (nmi i) (ws.drop 3)⟩
def rdLn (s : ByteArray) : Rq := bif few (wdsR s) then z0 else rdQ (wdsR s)
theorem gw_row {W : World} {a : Option Addr} {n c : Nat} {ws : List ByteArray} (h : RowIsS W a n c ws) {j : Nat} (hj : j < n) : stW W a (j : Int) = gw ws j ∧ gw ws j ∈ ws := by
 have hl : j < ws.length := by rw [h.len]; exact hj
 have e := List.getElem?_eq_getElem hl
 unfold gw
 rw [e]
 exact ⟨h.val j _ e, List.getElem_mem hl⟩
theorem qst_row {W : World} {a : Option Addr} {n c : Nat} {ws : List ByteArray} (h : RowIsS W a n c ws) (hn : 3 ≤ n) : ∀ k, qst W a k = stR' ws k
 | 0 => rfl
 | k + 1 => by
  have e := (gw_row h (j := 0) (by omega)).1
  show (bif sEq (stN ((k + 1 : Nat) : Int)) (stW W a 0) then ((k + 1 : Nat) : Int) else qst W a k) = (bif sEq (stN ((k + 1 : Nat) : Int)) (gw ws 0) then ((k + 1 : Nat) : Int) else stR' ws k)
  rw [qst_row h hn k, ← e]
  rfl
end Go.Proofs.YtjmnolhkkpaodaaGreatDoor
namespace Go.Proofs.YtjmnolhkkpaodaaGreatDoor
open Go Go.Sx Go.RowKit
set_option maxRecDepth 100000
def BR (r : Rq) : BI := ⟨34, r.cells, true⟩
noncomputable def cT (ws : List ByteArray) (a : Option Addr) (n c : Nat) (ow : Own) (v : TV) (Bl : List (Nat × BI)) : Bool := sameTV v (.one (.ptr 0 0)) && (sameB Bl [(0, z34)] && @decide (ow = ⟨9, 1, a, n, c, strs ws⟩ ∧ n = ws.length) (Classical.propDecidable _))
structure WsOk (ws : List ByteArray) : Prop where
 len : ws.length ≤ 3000000001
 size : ∀ x ∈ ws, x.size ≤ 3000000000
theorem own_addr {w : World} {base : Nat} {e : TypeId} {size : Nat} {a : Option Addr} {k c n : Nat} {xs : List Value} (h : w.ownsRow base e size (.slice a k c) n xs) : (∀ q, a = some q → ∃ g, q = ⟨g, 0, none⟩) ∧ k ≤ c := by
 rcases h.2 with ⟨h1, _⟩ | ⟨g, cap, cur, h1, _, _, h2, _⟩
 · injection h1 with h1 h2 h3
   refine ⟨fun q hq => ?_, by omega⟩
   rw [h1] at hq
   cases hq
 · injection h1 with h1 h4 h5
   refine ⟨fun q hq => ⟨g, ?_⟩, by omega⟩
   rw [h1] at hq
   exact (Option.some.inj hq).symm
theorem own_block {a : Option Addr} {k c : Nat} : (Value.slice a k c).ownBlock = a.map Addr.block := by
 cases a <;> rfl
theorem rep14_ok {X : Bool} (h : X = true) : ∀ k, rep14 X k = true
 | 0 => h
 | k + 1 => by unfold rep14; rw [rep14_ok h k, h]; rfl
theorem pinsA_ext {st a d : Int} {b b' : FBw} (h : ∀ i, b i = b' i) : pinsA st a d b = pinsA st a d b' := by rw [funext h]
theorem sameTV_self : sameTV (.one (.ptr 0 0)) (.one (.ptr 0 0)) = true := rfl
end Go.Proofs.YtjmnolhkkpaodaaGreatDoor
namespace Go.Sx
open Go Go.RowKit
set_option maxRecDepth 100000
section
variable {W : Bs} {P : Program} {nt : Nat} {s : SL} {m : Mem} {g : Gh} {f : Nat → Nat} {a : Act} {w : World}
theorem HoldS.sub {m1 : Mem} (h : HoldS W m f w) (hg : ∀ b o v, m1.get b o = some v → m.get b o = some v) (hb : ∀ b i, look m1.blks b = some i → look m.blks b = some i) : HoldS W m1 f w :=
 ⟨fun b o v hv => h.1 b o v (hg b o v hv), fun b i hi => h.2.1 b i (hb b i hi), h.2.2⟩
theorem GSt.reslot (h : GSt W nt s m g f a w) {s' : SL} (hs : ∀ t v, look s' t = some v → v ≠ .un → ∃ v0, look s t = some v0 ∧ v0 ≠ .un ∧ v.den f = v0.den f) : GSt W nt s' m g f a w :=
 ⟨h.size, h.defers, fun t v hv hne => by
  obtain ⟨v0, h1, h2, h3⟩ := hs t v hv hne
  rw [h3]
  exact h.slots t v0 h1 h2, h.mem, h.base, h.fr, h.pin, h.gh⟩
theorem wpAnyH_weak {ops : Array Oper} {Q : Exit → Act → World → Prop} {S S' : World → Prop} (hS : ∀ w, S' w → S w) : ∀ (fuel : Nat) (l : Array Bool) (a : Act) (w : World), wpAnyH P .any ops Q S' fuel l a w → wpAnyH P .any ops Q S fuel l a w
 | 0, l, a, w, h => h
 | fuel + 1, l, a, w, h => ⟨h.1, fun i hi => wpOp_mono (fun a' w' h3 => ⟨hS _ h3.1, wpAnyH_weak hS fuel _ a' w' h3.2⟩) (h.2 i hi)⟩
def takeN (P : Program) (W : World) (nt : Nat) (ops : Array Oper) (m : Mem) : List Nat → Array Bool → SL → Option (Array Bool × SL)
 | [], l, s => some (l, s)
 | i :: r, l, s => match ops.toList[i]? with
  | some o => match o.dst with
   | some d => match Nat.blt d nt && ((Region.free .any ops l i) && (Region.ready .any ops l).contains i) with
    | true => match guardS ops (look s) o with
     | .yes => match (prim P W o 0 (look s) m.get (look m.blks)).get with
      | some ⟨.lit true, v, [], none⟩ => match oneT v with
       | true => takeN P W nt ops m r (l.setIfInBounds i true) (putS (some d) v s)
       | false => none
      | _ => none
     | .no => takeN P W nt ops m r (l.setIfInBounds i true) (putS (some d) .ud s)
     | _ => none
    | false => none
   | none => none
  | none => none
theorem GSt.putV (h : GSt W nt s m g f a w) {d : Nat} (hd : d < nt) {v : TV} {u : Value} (hv : u = v.den f) : GSt W nt (putS (some d) v s) m g f (a.put (some d) u) w :=
 ⟨by simp [Act.put, h.size], by simp [Act.put, h.defers], h.slots.put h.size (by simp [dstOk, Nat.blt]; omega) (.inr hv), h.mem, h.base, h.fr, h.pin, h.gh⟩
theorem takeN_ok {ops : Array Oper} {S : World → Prop} {m1 : Mem} (hS : ∀ w, S w → HoldS W m1 f w) (hs : Region.noSelect ops = true) {Q : Exit → Act → World → Prop} (hQ : ∀ c a w, ¬ Q (.panic c) a w) : ∀ {L : List Nat} {l l' : Array Bool} {s s' : SL} {a : Act} {w : World}, takeN P W.W nt ops m1 L l s = some (l', s') → S w → GSt W nt s m g f a w → ∀ {fuel : Nat},
  (∀ a', GSt W nt s' m g f a' w → wpAnyH P .any ops Q S fuel l' a' w) → wpAnyH P .any ops Q S (fuel + L.length) l a w
 | [], l, l', s, s', a, w, h, _, hg, fuel, hn => by
  simp only [takeN, Option.some.injEq, Prod.mk.injEq] at h
  obtain ⟨rfl, rfl⟩ := h
  exact hn a hg
 | i :: r, l, l', s, s', a, w, h, hw, hg, fuel, hn => by
  simp only [takeN] at h
  split at h <;> try contradiction
  rename_i o ho
  split at h <;> try contradiction
  rename_i d hdst
  split at h <;> try contradiction
  rename_i hc
  simp only [Bool.and_eq_true] at hc
  obtain ⟨hdn, hfr, hrd⟩ := hc
  have hdn : d < nt := lt_of_blt hdn
  have ho' : ops[i]? = some o := by rw [← Array.getElem?_toList]; exact ho
  rw [List.length_cons, ← Nat.add_assoc]
  split at h
  · rename_i hgy
    split at h <;> try contradiction
    rename_i v hprim
    split at h <;> try contradiction
    rename_i hv
    obtain ⟨hv1, hv2⟩ := oneT_ne hv
    have hrun : ∀ w', S w' → (execOp a.eval o).run P w' = .ok (.value (v.den f)) w' := by
     intro w' hw'
     obtain ⟨h1, h2, h3⟩ := hS w' hw'
     obtain ⟨x, u, h4, h5, h6, _, _⟩ := prim_sound (nid := 0) hprim rfl hg.slots h1 h2 h3
     have hu : u = v.den f := by
      rcases h6 with h6 | h6
      · exact absurd h6 hv1
      · exact h6
     subst hu
     rcases h5 with rfl | ⟨_, h5⟩
     · exact h4
     · exact absurd h5 (hv2 f)
    refine wpAnyH_take (v := v.den f) ho' hs hfr hrd (fun c a w hq => absurd hq (hQ _ _ _)) (.inl ⟨guard_yes hg.slots hgy, hrun⟩) hw ?_
    rw [hdst]
    exact takeN_ok hS hs hQ h hw (hg.putV hdn rfl) hn
  · rename_i hgn
    refine wpAnyH_take (v := undef) ho' hs hfr hrd (fun c a w hq => absurd hq (hQ _ _ _)) (.inr ⟨guard_no hg.slots hgn, rfl⟩) hw ?_
    rw [hdst]
    exact takeN_ok hS hs hQ h hw (hg.putV hdn rfl) hn
  · contradiction
theorem step_wp {o : Oper} {e : Eff} (h : GSt W nt s m g f a w) (hr : EffRun P o a w f m.next (look m.blks) e) (hnb : e.nb = none) (hd : dstOk nt o.dst = true) (hrw : allRw m = true) {K : Act → World → Prop} {Q : Exit → Act → World → Prop}
  (hK : ∀ a' w', GSt W nt (putS o.dst e.val s) (putM e m) g f a' w' → K a' w') : o.wp P a w K Q := by
 obtain ⟨x, u, hrun, hx, hv, hws, _⟩ := hr
 obtain ⟨c, v, ws, nb⟩ := e
 dsimp only at hnb
 subst hnb
 have hrel := h.rel
 obtain ⟨h1, h2⟩ := hrel.mem.writes hrel.fr hws
 have hput : (a.put o.dst u).tmps.size = nt ∧ (a.put o.dst u).defers = [] := by
  cases o.dst <;> simp [Act.put, h.size, h.defers]
 have hst : GSt W nt (putS o.dst v s) (putM ⟨c, v, ws, none⟩ m) g f (a.put o.dst u) (applyWs f ws w) :=
  h.next ⟨hput.1, hput.2, hrel.slots.put hrel.size hd hv, h1, h2⟩ hrw (Ext.refl _ _) (Nat.le_refl _)
 have hrun' : (execOp a.eval o).run P w = .ok x (applyWs f ws w) := hrun
 unfold Oper.wp
 rw [hrun']
 rcases hx with rfl | ⟨rfl, rfl⟩
 · rw [Oper.upon_value]
   exact hK _ _ hst
 · rw [Oper.upon_skip]
   exact hK _ _ hst
end
end Go.Sx
namespace Go.Proofs.YtjmnolhkkpaodaaGreatDoor
open Go Go.Sx Go.RowKit
set_option maxRecDepth 100000
noncomputable def G23 : List (Nat × Sx.Spec) := [(52, specV (FNum numD))]
noncomputable def lb23 : Code := match bodyOf Tryz.f23 with
 | .seq _ (.seq _ (.seq _ (.seq _ (.seq _ (.seq (.seq _ (.block _ (.loop b))) _))))) => b
 | _ => .skip
def p34b (st x d : Int) (b : FBw) : BI := ⟨34, pinsA st x d b, true⟩
def SP23 (s : ByteArray) (a : Option Addr) (n c : Nat) (v : Int) : SL := [(0, .one (.str s)), (2, .one (.ptr 0 0)), (5, .one (.ptr 1 0)), (58, .one (.sl a n c)), (59, .one (.int .i64 (.sym (n : Int)))), (60, .one (.int .i64 (.sym v)))]
def ks23 : List (Nat × Bool) := [(0, false), (2, false), (5, false), (58, false), (59, false), (60, true)]
def B23 (st x d : Int) (b : FBw) : List (Nat × BI) := [(0, z34), (1, p34b st x d b)]
noncomputable def r23 (W : World) (s : ByteArray) (a : Option Addr) (n c : Nat) (v st x d : Int) (b : FBw) : RG := (runG Tryz.prog W G23 100000 88 .plain lb23 (SP23 s a n c v) ⟨[], B23 st x d b, 3⟩ []).slim 3 ks23 [(0, false), (1, true)] [(0, false), (2, false), (5, false)] [(0, false), (1, true)]
noncomputable def tl23 : Code := match bodyOf Tryz.f23 with
 | .seq _ (.seq _ c) => c
 | _ => .skip
noncomputable def la23 : Code := match tl23 with
 | .seq _ (.seq _ (.seq _ (.seq _ c))) => c
 | _ => .skip
def okD (s : ByteArray) (p : PinV) : Bool := bif decide (p.st = 0) then false else sEq p.txt s
def pvB (st x d : Int) (b : FBw) : PinV := ⟨st, x, d, [b 0, b 1, b 2, b 3, b 4, b 5, b 6, b 7, b 8, b 9, b 10, b 11, b 12, b 13]⟩
noncomputable def c23l (st x d : Int) (b : FBw) (v2 v5 : TV) (Bl : List (Nat × BI)) : Bool := sameTV v2 (.one (.ptr 0 0)) && (sameTV v5 (.one (.ptr 1 0)) && (sameB Bl (B23 st x d b) && rngP (pvB st x d b)))
noncomputable def E23l (st x d : Int) (b : FBw) (S : SL) (Bl : List (Nat × BI)) (g : Gh) : RG := match S, g with
 | [(0, .one (.str s)), (2, v2), (5, v5)], [] => .leaf .nrm (.sym (c23l st x d b v2 v5 Bl)) [(2, .one (.ptr 0 0)), (3, .one (.bool (.sym (okD s (pvB st x d b)))))] ⟨[], [(0, ⟨34, pinsA st x d b, true⟩)], 3⟩ []
 | _, _ => .fail
noncomputable def K23l (st x d : Int) (b : FBw) : SL → Mem → Gh → RG := custK [(0, false), (2, false), (5, false)] [(0, false), (1, true)] 3 (E23l st x d b)
def orN (W : World) (a : Option Addr) (b : FBw) : Nat → FBw
 | 0 => b
 | v + 1 => fun i => bif sEq (nmi i) (stW W a (v : Int)) then true else orN W a b v i
def End23 (s : ByteArray) (st x d : Int) (b : FBw) : RG := .leaf (.exit 2) (.lit true) [(0, .one (.str s)), (2, .one (.ptr 0 0)), (5, .one (.ptr 1 0))] ⟨[], B23 st x d b, 3⟩ []
noncomputable def h23w (s : ByteArray) (a : Option Addr) (n c : Nat) (st x d : Int) (b b' : FBw) (cf : Bool) : LG := .at_ cf ks23 [(0, false), (1, true)] 3 (SP23 s a n c 0) (B23 st x d b) [] (End23 s st x d b')
noncomputable def t23 (s : ByteArray) (a : Option Addr) (n c : Nat) (st x d : Int) (b b' : FBw) (cf : Bool) : HG := .seq .plain (.seq .plain (.seq .plain (.seq (.seq .plain (.block (.loop (h23w s a n c st x d b b' cf)))) (.seq (.cust (K23l st x d b')) .plain))))
def S23 (s : ByteArray) (a : Option Addr) (n c : Nat) : SL := [(0, .one (.str s)), (2, .one (.ptr 0 0)), (3, .one (.bool (.lit false))), (4, .one (.sl a n c))]
noncomputable def y23 (W : World) (s : ByteArray) (a : Option Addr) (n c : Nat) (a' : Option Addr) (n' c' : Nat) (st x d : Int) (b b' : FBw) (cf : Bool) : RG := (runG Tryz.prog W G23 100000 88 (t23 s a' n' c' st x d b b' cf) tl23 (S23 s a n c) ⟨[], [(0, z34)], 1⟩ []).slim 1 [] [(0, false)] [(2, false), (3, false)] [(0, false)]
def fF : FBw := fun _ => false
theorem r23_eq (W : World) (s : ByteArray) (a : Option Addr) (n c : Nat) (v st x d : Int) (b : FBw) : r23 W s a n c v st x d b = .br (decide (v < (n : Int))) (.leaf .nrm (.sym (inRow a n v && okS W a v)) (SP23 s a n c (gadd .i64 v 1)) ⟨[], B23 st x d (fun i => bif sEq (nmi i) (stW W a v) then true else b i), 3⟩ []) (End23 s st x d b) := by kernel_rfl
def few23 (W : World) (a : Option Addr) (n : Nat) : Bool := bif decide ((n : Int) < 3) then true else bif !decide (((stW W a 1).size : Int) = 4) then true else !decide (((stW W a 2).size : Int) = 2)
def v17 (W : World) (a : Option Addr) (n : Nat) : Bool := bif decide ((n : Int) < 3) then true else bif !decide (((stW W a 1).size : Int) = 4) then inRow a n 1 && okS W a 1 else inRow a n 1 && (okS W a 1 && (inRow a n 2 && okS W a 2))
def XD (W : World) (a : Option Addr) : Int := IntKind.u16.wrap (numD (stW W a 1))
def DD (W : World) (a : Option Addr) : Int := IntKind.u8.wrap (numD (stW W a 2))
noncomputable def k23 (cf : Bool) (s : ByteArray) (a : Option Addr) (n c : Nat) (st x d : Int) : Bool := cf && (sameS (SP23 s a n c 0) (SP23 s a n c 0) && (sameB (B23 st x d fF) (B23 st x d fF) && @decide (([] : Gh) = []) (Classical.propDecidable _)))
noncomputable def c23 (W : World) (s : ByteArray) (a : Option Addr) (n c : Nat) (b' : FBw) (cf : Bool) : Bool := v17 W a n && (cA49 W a n && (rep14 (g0S W a n 0) 9 && ((decide ((3 : Int) ≤ (n : Int)) && k23 cf s (cutA a c 3 1) (n - 3) (c - 3) (qst W a 10) (XD W a) (DD W a)) && c23l (qst W a 10) (XD W a) (DD W a) b' (.one (.ptr 0 0)) (.one (.ptr 1 0)) (B23 (qst W a 10) (XD W a) (DD W a) b'))))
theorem y23_eq (W : World) (s : ByteArray) (a : Option Addr) (n c : Nat) (b' : FBw) (cf : Bool) : y23 W s a n c (cutA a c 3 1) (n - 3) (c - 3) (qst W a 10) (XD W a) (DD W a) fF b' cf = .br (few23 W a n)
  (.leaf .ret (.sym (v17 W a n)) [(2, .one (.ptr 0 0)), (3, .one (.bool (.lit false)))] ⟨[], [(0, z34)], 1⟩ [])
  (.leaf .ret (.sym (c23 W s a n c b' cf)) [(2, .one (.ptr 0 0)), (3, .one (.bool (.sym (okD s (pvB (qst W a 10) (XD W a) (DD W a) b')))))] ⟨[], [(0, ⟨34, pinsA (qst W a 10) (XD W a) (DD W a) b', true⟩)], 1⟩ []) := by kernel_rfl
end Go.Proofs.YtjmnolhkkpaodaaGreatDoor
namespace Go.Proofs.YtjmnolhkkpaodaaGreatDoor
open Go Go.Sx Go.RowKit
set_option maxRecDepth 100000
noncomputable def ops23l : Array Oper := match la23 with
 | .seq (.region _ o _) _ => o
 | _ => #[]
noncomputable def op23l (i : Nat) : Oper := match ops23l.toList[i]? with
 | some o => o
 | none => op49w
def ag (st x d : Int) (b : FBw) : TV := .agg (pinsA st x d b)
def S23l (s : ByteArray) : SL := [(0, .one (.str s)), (2, .one (.ptr 0 0)), (5, .one (.ptr 1 0))]
def SA (s : ByteArray) (st x d : Int) (b : FBw) (q : Bool) : SL := [(81, .one (.bool (.lit q))), (77, ag st x d b), (0, .one (.str s)), (2, .one (.ptr 0 0)), (5, .one (.ptr 1 0))]
def SX (s t : ByteArray) (st x d : Int) (b : FBw) : SL := [(84, .one (.str t)), (85, .one (.str s)), (81, .one (.bool (.lit true))), (77, ag st x d b), (2, .one (.ptr 0 0))]
def SC (st x d : Int) (b : FBw) (v : Bool) : SL := [(87, .one (.bool (.sym v))), (77, ag st x d b), (2, .one (.ptr 0 0))]
def m23l (st x d : Int) (b : FBw) : Mem := ⟨[], [(1, p34b st x d b)], 3⟩
def M23 (st x d : Int) (b : FBw) : Mem := ⟨[], B23 st x d b, 3⟩
def lv23 (l : List Nat) : Array Bool := l.foldl (fun a i => a.setIfInBounds i true) (Array.replicate 13 false)
def TA (s : ByteArray) (st x d : Int) (b : FBw) : SL := [(81, .one (.bool (.sym (!(st == 0))))), (80, .one (.bool (.sym (!(st == 0))))), (79, .one (.int .i64 (.sym st))), (78, .one (.ptr 1 0)), (77, ag st x d b), (0, .one (.str s)), (2, .one (.ptr 0 0)), (5, .one (.ptr 1 0))]
theorem takeA (W : World) (s : ByteArray) (st x d : Int) (b : FBw) : takeN Tryz.prog W 88 ops23l (m23l st x d b) [0, 1, 2, 3, 4] (lv23 []) (S23l s) = some (lv23 [0, 1, 2, 3, 4], TA s st x d b) := by kernel_rfl
theorem takeB0 (W : World) (s : ByteArray) (st x d : Int) (b : FBw) : takeN Tryz.prog W 88 ops23l (m23l st x d b) [5, 6, 7, 8, 9, 10] (lv23 [0, 1, 2, 3, 4]) (SA s st x d b false) = some (lv23 [0, 1, 2, 3, 4, 5, 6, 7, 8, 9, 10], (87, .one (.bool (.lit false))) :: (86, .ud) :: (85, .ud) :: (84, .ud) :: (83, .ud) :: (82, .ud) :: SA s st x d b false) := by kernel_rfl
theorem takeB1 (W : World) (s : ByteArray) (st x d : Int) (b : FBw) : takeN Tryz.prog W 88 ops23l (m23l st x d b) [5, 8] (lv23 [0, 1, 2, 3, 4]) (SA s st x d b true) = some (lv23 [0, 1, 2, 3, 4, 5, 8], (85, .one (.str s)) :: (82, ag st x d b) :: SA s st x d b true) := by kernel_rfl
theorem takeX (W : World) (s t : ByteArray) (st x d : Int) (b : FBw) : takeN Tryz.prog W 88 ops23l (m23l st x d b) [9, 10] (lv23 [0, 1, 2, 3, 4, 5, 6, 7, 8]) (SX s t st x d b) = some (lv23 [0, 1, 2, 3, 4, 5, 6, 7, 8, 9, 10], (87, .one (.bool (.sym (sEq t s)))) :: (86, .one (.bool (.sym (sEq t s)))) :: SX s t st x d b) := by kernel_rfl
theorem takeE (W : World) (st x d : Int) (b : FBw) (v : Bool) : takeN Tryz.prog W 88 ops23l (m23l st x d b) [12] (lv23 [0, 1, 2, 3, 4, 5, 6, 7, 8, 9, 10, 11]) (SC st x d b v) = some (lv23 [0, 1, 2, 3, 4, 5, 6, 7, 8, 9, 10, 11, 12], (3, .one (.bool (.sym v))) :: SC st x d b v) := by kernel_rfl
theorem rdy11 : Region.ready .any ops23l (lv23 [0, 1, 2, 3, 4, 5, 6, 7, 8, 9, 10]) = [11] := by kernel_rfl
theorem rdy6 : Region.ready .any ops23l (lv23 [0, 1, 2, 3, 4, 5, 8]) = [6] := by kernel_rfl
theorem rdyE : Region.ready .any ops23l (lv23 [0, 1, 2, 3, 4, 5, 6, 7, 8, 9, 10, 11, 12]) = [] := by kernel_rfl
theorem nosel : Region.noSelect ops23l = true := by kernel_rfl
def wsC (st x d : Int) (b : FBw) : List (Nat × Nat × SV) := wsOf 0 0 (pinsA st x d b) []
theorem prim11 (W : World) (st x d : Int) (b : FBw) (v : Bool) : (prim Tryz.prog W (op23l 11) 3 (Sx.look (SC st x d b v)) (M23 st x d b).get (Sx.look (M23 st x d b).blks)).get = some ⟨.lit true, .un, wsC st x d b, none⟩ := by kernel_rfl
end Go.Proofs.YtjmnolhkkpaodaaGreatDoor
namespace Go.Proofs.YtjmnolhkkpaodaaGreatDoor
open Go Go.Sx Go.RowKit
set_option maxRecDepth 100000
def HoldG (W : Bs) (m : Mem) (f : Nat → Nat) (g : Gh) (w : World) : Prop := HoldS W m f w ∧ ∀ (q : Nat) (o : Own), g[q]? = some o → o.rel 0 w
section
variable {W : Bs} {s : ByteArray} {st x d : Int} {b : FBw} {g : Gh} {f : Nat → Nat} {a : Act} {w : World}
theorem look1 {bi j : BI} {k : Nat} (h : Sx.look [(1, bi)] k = some j) : k = 1 ∧ j = bi := by
 rw [look_cons] at h
 split at h
 · rename_i hb
   simp only [Option.some.injEq] at h
   exact ⟨hb.symm, h.symm⟩
 · simp [Sx.look] at h
theorem get1 {st x d : Int} {b : FBw} {k o : Nat} {v : SV} (h : (m23l st x d b).get k o = some v) : k = 1 := by
 by_cases hk : k = 1
 · exact hk
 · exfalso
   have : Sx.look [(1, p34b st x d b)] k = none := by
    rw [look_cons, if_neg (fun e => hk e.symm)]
    rfl
   simp [Mem.get, m23l, findC, this] at h
theorem holdM {s : SL} (h : GSt W 88 s (M23 st x d b) g f a w) : HoldG W (m23l st x d b) f g w := by
 refine ⟨h.hold.sub (fun k o v hv => ?_) fun k i hi => ?_, h.gh.own⟩
 · obtain rfl := get1 hv
   exact hv
 · obtain ⟨rfl, rfl⟩ := look1 hi
   rfl
def M23' (st x d : Int) (b : FBw) : Mem := ⟨wsC st x d b, B23 st x d b, 3⟩
theorem holdM' {s : SL} (h : GSt W 88 s (M23' st x d b) g f a w) : HoldG W (m23l st x d b) f g w := by
 refine ⟨h.hold.sub (fun k o v hv => ?_) fun k i hi => ?_, h.gh.own⟩
 · obtain rfl := get1 hv
   exact hv
 · obtain ⟨rfl, rfl⟩ := look1 hi
   rfl
theorem end23 {v : Bool} {Q : Exit → Act → World → Prop} (h : GSt W 88 (SC st x d b v) (M23 st x d b) g f a w) (hQ : ∀ c a w, ¬ Q (.panic c) a w)
  (hK : ∀ a' w', GSt W 88 ((3, .one (.bool (.sym v))) :: SC st x d b v) (M23' st x d b) g f a' w' → Q .normal a' w') : wpAnyH Tryz.prog .any ops23l Q (HoldG W (m23l st x d b) f g) 2 (lv23 [0, 1, 2, 3, 4, 5, 6, 7, 8, 9, 10]) a w := by
 refine held_op (i := 11) (o := op23l 11) (by kernel_rfl) rdy11 (wanted_none (by kernel_rfl)) ?_
 have hp := prim_sound (nid := 3) (a := a) (prim11 W.W st x d b v) rfl h.slots h.mem.cell h.mem.blk h.old
 have hdst : (op23l 11).dst = none := by kernel_rfl
 refine step_wp h hp rfl (by rw [hdst]; rfl) rfl ?_
 intro a1 w1 h1
 rw [hdst] at h1
 have h1 : GSt W 88 (SC st x d b v) (M23' st x d b) g f a1 w1 := h1
 refine ⟨holdM' h1, ?_⟩
 refine takeN_ok (fuel := 0) (L := [12]) (fun w hw => hw.1) nosel hQ (takeE W.W st x d b v) (holdM' h1) h1 ?_
 intro a2 h2
 exact wpAnyH_done rdyE (hK a2 w1 h2) 0
end
theorem lk (k : Nat) (v : TV) (s : SL) (t : Nat) : Sx.look ((k, v) :: s) t = if k = t then some v else Sx.look s t := look_cons ..
theorem case0 {W : Bs} {s : ByteArray} {st x d : Int} {b : FBw} {f : Nat → Nat} {a : Act} {w : World} {Q : Exit → Act → World → Prop} (h : GSt W 88 (SA s st x d b false) (M23 st x d b) [] f a w) (hQ : ∀ c a w, ¬ Q (.panic c) a w)
  (hK : ∀ g a' w', GSt W 88 ((3, .one (.bool (.sym false))) :: SC st x d b false) (M23' st x d b) g f a' w' → Q .normal a' w') : wpAnyH Tryz.prog .any ops23l Q (HoldG W (m23l st x d b) f []) 8 (lv23 [0, 1, 2, 3, 4]) a w := by
 refine takeN_ok (fuel := 2) (L := [5, 6, 7, 8, 9, 10]) (fun w hw => hw.1) nosel hQ (takeB0 W.W s st x d b) (holdM h) h ?_
 intro a2 h2
 refine end23 (v := false) (h2.reslot ?_) hQ fun a' w' => hK [] a' w'
 intro t v hv hne
 unfold SC at hv
 rw [lk] at hv
 split at hv
 · rename_i e
   subst e
   simp only [Option.some.injEq] at hv
   subst hv
   exact ⟨.one (.bool (.lit false)), rfl, by simp, rfl⟩
 · rw [lk] at hv
   split at hv
   · rename_i e
     subst e
     simp only [Option.some.injEq] at hv
     subst hv
     exact ⟨ag st x d b, rfl, by simp [ag], rfl⟩
   · rw [lk] at hv
     split at hv
     · rename_i e
       subst e
       simp only [Option.some.injEq] at hv
       subst hv
       exact ⟨.one (.ptr 0 0), rfl, by simp, rfl⟩
     · simp [Sx.look] at hv
def ow0 : Own := ⟨5, 1, none, 0, 0, []⟩
def owT (t : ByteArray) (a : Option Addr) (c : Nat) : Own := ⟨5, 1, a, 0 + (encB t).length, c, [] ++ encB t⟩
theorem case1 {W : Bs} {s : ByteArray} {st x d : Int} {b : FBw} {f : Nat → Nat} {a : Act} {w : World} {Q : Exit → Act → World → Prop} (h : GSt W 88 (SA s st x d b true) (M23 st x d b) [] f a w) (hr : rngP (pvB st x d b) = true) (hQ : ∀ c a w, ¬ Q (.panic c) a w)
  (hK : ∀ g a' w', GSt W 88 ((3, .one (.bool (.sym (sEq (pvB st x d b).txt s)))) :: SC st x d b (sEq (pvB st x d b).txt s)) (M23' st x d b) g f a' w' → Q .normal a' w') : wpAnyH Tryz.prog .any ops23l Q (HoldG W (m23l st x d b) f []) 8 (lv23 [0, 1, 2, 3, 4]) a w := by
 refine takeN_ok (fuel := 6) (L := [5, 8]) (fun w hw => hw.1) nosel hQ (takeB1 W.W s st x d b) (holdM h) h ?_
 intro a2 h2
 have h3 := h2.fresh 5 1
 have hg6 : guardS ops23l (Sx.look ((85, .one (.str s)) :: (82, ag st x d b) :: SA s st x d b true)) (op23l 6) = .yes := by kernel_rfl
 refine held_op (i := 6) (o := op23l 6) (by kernel_rfl) rdy6 (guard_yes h2.slots hg6) ?_
 have htx := txt_size (pvB st x d b)
 have hl := encB_length (pvB st x d b).txt
 obtain ⟨hra, hrd⟩ := rngP_ok hr
 refine growC_wp (nt := 88) (f := f) (g := [] ++ [⟨5, 1, none, 0, 0, []⟩]) (i := 0) (d := 83) (gf := 19) (ys := [.const (.slice none 0 0), .tmp 82]) (x := ag st x d b) (l := encB (pvB st x d b).txt) (ow := ow0) (by kernel_rfl) (by kernel_rfl) (by decide) rfl (by exact line_growC hra hrd) rfl rfl rfl (by rw [hl]; show 0 + (pvB st x d b).txt.size ≤ 4000000000; omega) h3 ?_
 intro a' c' u w1 h4
 have h4 : GSt W 88 ((83, .one (.sl a' (0 + (encB (pvB st x d b).txt).length) c')) :: (85, .one (.str s)) :: (82, ag st x d b) :: SA s st x d b true) (M23 st x d b) [owT (pvB st x d b).txt a' c'] f (a2.put (some 83) u) w1 := h4
 refine ⟨⟨(holdM h4).1, fun q o ho => by simp at ho⟩, ?_⟩
 refine wpAnyH_weak (S' := HoldG W (m23l st x d b) f [owT (pvB st x d b).txt a' c']) (fun w hw => ⟨hw.1, fun q o ho => by simp at ho⟩) 5 _ _ _ ?_
 have hop : (op23l 7).op = .convert 30 9 (.tmp 83) := by kernel_rfl
 have hg7 : guardS ops23l (Sx.look ((83, .one (.sl a' (0 + (encB (pvB st x d b).txt).length) c')) :: (85, .one (.str s)) :: (82, ag st x d b) :: SA s st x d b true)) (op23l 7) = .yes := by kernel_rfl
 have hd7 : (op23l 7).dst = some 84 := by kernel_rfl
 have hel : (Region.free .any ops23l (lv23 [0, 1, 2, 3, 4, 5, 8, 6]) 7 && (Region.ready .any ops23l (lv23 [0, 1, 2, 3, 4, 5, 8, 6])).contains 7) = true := by kernel_rfl
 rw [Bool.and_eq_true] at hel
 refine wpAnyH_take (i := 7) (oi := op23l 7) (v := .string (pvB st x d b).txt) (fuel := 4) (by rw [← Array.getElem?_toList]; kernel_rfl) nosel hel.1 hel.2 (fun c a w hq => absurd hq (hQ _ _ _)) (.inl ⟨guard_yes h4.slots hg7, fun w' hw' => ?_⟩) (holdM h4) ?_
 · have hown := hw'.2 0 _ rfl
   unfold Own.rel Own.vals owT at hown
   dsimp only at hown
   rw [List.nil_append, encB_vals] at hown
   have hsv : (a2.put (some 83) u).eval (.tmp 83) = .slice a' (0 + (encB (pvB st x d b).txt).length) c' := h4.slots 83 (.one (.sl a' (0 + (encB (pvB st x d b).txt).length) c')) rfl (by simp)
   unfold execOp
   have hcv : (convert 30 9 (Value.slice a' (0 + (encB (pvB st x d b).txt).length) c')).run Tryz.prog w' = .ok (.string (pvB st x d b).txt) w' := run_conv_own (P := Tryz.prog) hown (src := 30) (dst := 9) (el := 5) (by kernel_rfl) (by kernel_rfl) (by kernel_rfl)
   simp only [hop, hsv, Sem.run_bind, Sem.run_pure]
   rw [hcv]
   rfl
 rw [hd7]
 have h5 := h4.putV (d := 84) (by decide) (v := .one (.str (pvB st x d b).txt)) (u := .string (pvB st x d b).txt) rfl
 have h6 : GSt W 88 (SX s (pvB st x d b).txt st x d b) (M23 st x d b) [owT (pvB st x d b).txt a' c'] f _ w1 := h5.fewer fun t v hv => by
  unfold SX at hv
  rw [lk] at hv
  split at hv
  · rename_i e; subst e; exact hv
  · rw [lk] at hv
    split at hv
    · rename_i e; subst e; exact hv
    · rw [lk] at hv
      split at hv
      · rename_i e; subst e; exact hv
      · rw [lk] at hv
        split at hv
        · rename_i e; subst e; exact hv
        · rw [lk] at hv
          split at hv
          · rename_i e; subst e; exact hv
          · simp [Sx.look] at hv
 refine takeN_ok (fuel := 2) (L := [9, 10]) (fun w hw => hw.1) nosel hQ (takeX W.W s (pvB st x d b).txt st x d b) (holdM h6) h6 ?_
 intro a3 h7
 refine end23 (v := sEq (pvB st x d b).txt s) (h7.fewer fun t v hv => ?_) hQ fun a' w' => hK _ a' w'
 unfold SC at hv
 rw [lk] at hv
 split at hv
 · rename_i e; subst e; exact hv
 · rw [lk] at hv
   split at hv
   · rename_i e; subst e; exact hv
   · rw [lk] at hv
     split at hv
     · rename_i e; subst e; exact hv
     · simp [Sx.look] at hv
end Go.Proofs.YtjmnolhkkpaodaaGreatDoor
