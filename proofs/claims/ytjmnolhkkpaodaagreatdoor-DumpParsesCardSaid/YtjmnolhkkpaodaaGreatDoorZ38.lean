/- A part of the proof: the reference is safe, both packages write and read alike. Several texts in one; printed by slim28.py out of the texts of wip. -/
import Derived.Test.YtjmnolhkkpaodaaGreatDoorZ37
set_option linter.all false
namespace Go.Proofs.YtjmnolhkkpaodaaGreatDoor
open Go Go.Sx Go.RowKit
set_option maxRecDepth 100000
noncomputable def lb49 : Code := match bodyOf Tryz.f49 with
 | .seq _ (.seq _ (.seq _ (.seq _ (.seq (.seq _ (.block _ (.loop b))) _)))) => b
 | _ => .skip
noncomputable def G49 (W : World) : List (Nat × Sx.Spec) := [(82, specV (FNum numR)), (45, specV FSt), (83, specV (F83 W))]
def fb14 : List SV := [.bool (.lit false), .bool (.lit false), .bool (.lit false), .bool (.lit false), .bool (.lit false), .bool (.lit false), .bool (.lit false), .bool (.lit false), .bool (.lit false), .bool (.lit false), .bool (.lit false), .bool (.lit false), .bool (.lit false), .bool (.lit false)]
def fs14 : List SV := [.bool (.sym false), .bool (.sym false), .bool (.sym false), .bool (.sym false), .bool (.sym false), .bool (.sym false), .bool (.sym false), .bool (.sym false), .bool (.sym false), .bool (.sym false), .bool (.sym false), .bool (.sym false), .bool (.sym false), .bool (.sym false)]
def z34 : BI := ⟨34, [.int .i64 (.lit 0), .int .u16 (.lit 0), .int .u8 (.lit 0)] ++ fb14, true⟩
def p34 (st x d : Int) : BI := ⟨34, [.int .i64 (.sym st), .int .u16 (.sym x), .int .u8 (.sym d)] ++ fs14, true⟩
def B49 (st x d : Int) : List (Nat × BI) := [(0, z34), (1, p34 st x d)]
def SP49 (a : Option Addr) (n c : Nat) (i : Int) : SL := [(2, .one (.ptr 0 0)), (3, .one (.sl a n c)), (4, .one (.ptr 1 0)), (5, .one (.int .i64 (.sym i)))]
def ks49 : List (Nat × Bool) := [(2, false), (3, false), (4, false), (5, true)]
noncomputable def r49 (W : World) (a : Option Addr) (n c : Nat) (i st x d : Int) : RG := (runG Tryz.prog W (G49 W) 100000 111 .plain lb49 (SP49 a n c i) ⟨[], B49 st x d, 2⟩ []).slim 2 ks49 [(0, false), (1, true)] [(2, false), (3, false), (4, false)] [(0, false), (1, true)]
def s49 (W : World) (a : Option Addr) (i st : Int) : Int := bif sEq (stN i) (stW W a 0) then i else st
def g0S (W : World) (a : Option Addr) (n : Nat) (j : Int) : Bool := inRow a n j && okS W a j
def End49 (W : World) (a : Option Addr) (n c : Nat) (q x d : Int) : RG := .leaf (.exit 0) (.lit true) [(2, .one (.ptr 0 0)), (3, .one (.sl a n c)), (4, .one (.ptr 1 0))] ⟨[], B49 q x d, 2⟩ []
noncomputable def tl49 : Code := match bodyOf Tryz.f49 with
 | .seq _ (.seq _ c) => c
 | _ => .skip
def S49 (a : Option Addr) (n c : Nat) : SL := [(2, .one (.ptr 0 0)), (3, .one (.sl a n c))]
theorem r49_eq (W : World) (a : Option Addr) (n c : Nat) (i st x d : Int) : r49 W a n c i st x d = .br (decide (i ≤ 10)) (.leaf .nrm (.sym (g0S W a n 0)) (SP49 a n c (gadd .i64 i 1)) ⟨[], B49 (s49 W a i st) x d, 2⟩ []) (End49 W a n c st x d) := by kernel_rfl
def qst (W : World) (a : Option Addr) : Nat → Int
 | 0 => 0
 | k + 1 => s49 W a ((k + 1 : Nat) : Int) (qst W a k)
theorem step49 {W : Bs} {a : Option Addr} {n c : Nat} (h : RowS W.W a n c) (h3 : 3 ≤ n) (x d : Int) : StepOk W Tryz.prog (G49 W.W) 100000 111 .plain lb49 2 ks49 [(0, false), (1, true)] [(2, false), (3, false), (4, false)] [(0, false), (1, true)] (fun k : Nat => k ≤ 10) (fun k => 10 - k) (fun k => SP49 a n c ((k + 1 : Nat) : Int)) (fun k => B49 (qst W.W a k) x d) (fun _ => []) (End49 W.W a n c (qst W.W a 10) x d) := by
 constructor
 intro k hk
 have hr := r49_eq W.W a n c ((k + 1 : Nat) : Int) (qst W.W a k) x d
 unfold r49 at hr
 rw [hr]
 constructor
 · intro h0
   have h0 : k < 10 := by have := of_decide_eq_true h0; omega
   refine ⟨?_, .inl ⟨rfl, k + 1, by show k + 1 ≤ 10; omega, by show 10 - (k + 1) < 10 - k; omega, ?_, rfl, rfl⟩⟩
   · rw [SB.val_sym]
     unfold g0S
     rw [show (0 : Int) = ((0 : Nat) : Int) from rfl, inRow_ok h.nil (by omega), h.at_ 0 (by omega)]
     rfl
   · rw [gadd_nat (by omega)]
 · intro h0
   have h0 := of_decide_eq_false h0
   have h0 : k = 10 := by omega
   subst h0
   exact ⟨rfl, .inr ⟨by simp, fun f a w hst e' he' => ⟨he', f, hst⟩⟩⟩
noncomputable def h49 (W : World) (cf : Bool) (a : Option Addr) (n c : Nat) (q x d : Int) : LG := .at_ cf ks49 [(0, false), (1, true)] 2 (SP49 a n c 1) (B49 0 x d) [] (End49 W a n c q x d)
theorem LG.at_no {W : Bs} {nt : Nat} {body : Code} {ks bs : List (Nat × Bool)} {N : Nat} {S0 : SL} {B0 : List (Nat × BI)} {g0 : Gh} {End : RG} : LoopGOk W Tryz.prog nt body (LG.at_ false ks bs N S0 B0 g0 End) := by
 intro S Bl g f a w hgood hst
 obtain ⟨h1, h2⟩ := RG.good_addVc hgood
 have h3 := h2 (RG.good_is h1)
 rw [SB.val_sym] at h3
 cases h3
theorem loop49 {W : Bs} {a : Option Addr} {n c : Nat} (hp : ∀ i, W.pin = some i → 0 < 2) (hG : GOk W.W Tryz.prog (G49 W.W)) (h : RowS W.W a n c) (x d : Int) : LoopGOk W Tryz.prog 111 lb49 (h49 W.W (decide (3 ≤ n)) a n c (qst W.W a 10) x d) := by
 by_cases h3 : 3 ≤ n
 case neg =>
  unfold h49
  rw [decide_eq_false h3]
  exact LG.at_no
 unfold h49
 rw [decide_eq_true h3]
 refine loopG_step (t := .plain) hG (hgB_ok (W := W) (P := Tryz.prog) (nt := 111) .plain lb49 rfl) rfl rfl (step49 h h3 x d) ?_ hp
 intro _
 exact ⟨0, by omega, rfl, rfl, .inl rfl⟩
noncomputable def ops49m : Array Oper := match tl49 with
 | .seq _ (.seq _ (.seq _ (.seq (.region _ o _) _))) => o
 | _ => #[]
noncomputable def t49 (W : World) (cf : Bool) (a : Option Addr) (n c : Nat) (q x d : Int) : HG := .seq .plain (.seq .plain (.seq (.seq .plain (.block (.loop (h49 W cf a n c q x d)))) (.seq (.cust (runCalls Tryz.prog W (G49 W) 100000 111 ops49m [⟨0, mkF 4 38 fb14 14⟩] 0)) .plain)))
noncomputable def y49 (W : World) (cf : Bool) (a : Option Addr) (n c : Nat) (q x d : Int) : RG := (runG Tryz.prog W (G49 W) 100000 111 (t49 W cf a n c q x d) tl49 (S49 a n c) ⟨[], [(0, z34)], 1⟩ []).slim 1 [] [(0, false)] [(2, false)] [(0, false)]
def X49 (W : World) (a : Option Addr) (v : Int) : Int := IntKind.u16.wrap (numR (stW W a v))
def D49 (W : World) (a : Option Addr) (v : Int) : Int := IntKind.u8.wrap (numR (stW W a v))
def lz (s : ByteArray) : Bool := decide (s.size ≤ 4000000000)
def cA49 (W : World) (a : Option Addr) (n : Nat) : Bool := inRow a n 1 && (okS W a 1 && (lz (stW W a 1) && (inRow a n 2 && (okS W a 2 && lz (stW W a 2)))))
noncomputable def k49 (cf : Bool) (a : Option Addr) (n c : Nat) (x d : Int) : Bool := cf && (sameS (SP49 a n c 1) (SP49 a n c 1) && (sameB (B49 0 x d) (B49 0 x d) && @decide (([] : Gh) = []) (Classical.propDecidable _)))
def rep14 (X : Bool) : Nat → Bool
 | 0 => X
 | k + 1 => X && rep14 X k
noncomputable def w49 (W : World) (a : Option Addr) (n c : Nat) : Bool := decide ((3 : Int) ≤ (n : Int)) && okRS W (cutA a c 3 1) (n - 3) (c - 3)
def mf49 (W : World) (a : Option Addr) (n c : Nat) : FBw := fun i => memN W (cutA a c 3 1) (nmi i) (n - 3)
def RL (bi : BI) : RG := .leaf .ret (.lit true) [(2, .one (.ptr 0 0))] ⟨[], [(0, bi)], 1⟩ []
theorem y49_eq (W : World) (cf : Bool) (a : Option Addr) (n c : Nat) (q : Int) : y49 W cf a n c q (X49 W a 1) (D49 W a 2) = .br (decide ((n : Int) < 3)) (RL z34)
  (.leaf .ret (.sym (cA49 W a n && (k49 cf a n c (X49 W a 1) (D49 W a 2) && rep14 (w49 W a n c) 13))) [(2, .one (.ptr 0 0))] ⟨[], [(0, ⟨34, pinsA q (X49 W a 1) (D49 W a 2) (mf49 W a n c), true⟩)], 1⟩ []) := by kernel_rfl
end Go.Proofs.YtjmnolhkkpaodaaGreatDoor
namespace Go.Proofs.YtjmnolhkkpaodaaGreatDoor
open Go Go.Sx Go.RowKit
set_option maxRecDepth 100000
def wordsL (ws : ByteArray → List ByteArray) (c : ByteArray → Bool) (x d : Nat) (s : SL) (m : Mem) (g : Gh) : RG := match Sx.look s x with
 | some (.one (.str b)) => .any fun a k => .leaf .nrm (.sym (c b)) (putS (some d) (.one (.sl a (ws b).length k)) s) m (g ++ [⟨9, 1, a, (ws b).length, k, strs (ws b)⟩])
 | _ => .fail
theorem strs_den (l : List ByteArray) : (strs l).map (SV.den fun _ => 0) = l.map .string := by unfold strs; rw [List.map_map]; rfl
theorem wordsL_ok {W : Bs} {nt gf x d : Nat} {ws : ByteArray → List ByteArray} {c : ByteArray → Bool} {o : Oper} {ys : List Operand} {r : List TV} (hc : callOf o = some (.func gf, .tmp x :: ys)) (hys : ∀ S, evalList S ys = some r) (hdst : o.dst = some d) (hd : d < nt)
  (hfn : ∃ fn, Tryz.prog.funcs[gf]? = some fn ∧ (fn.name == "runtime.NumGoroutine") = false ∧ fn.body.isNone = false)
  (hk : ∀ (b : ByteArray) (w : World) (f : Nat → Nat), c b = true → Old W.W w → Calls Tryz.prog gf ((TV.one (.str b) :: r).map (TV.den f)).toArray w fun en w' => ∃ a' c', en = .returned (.slice a' (ws b).length c') ∧ w'.ownsRow w.heap.size 9 1 (.slice a' (ws b).length c') (ws b).length ((ws b).map .string) ∧ Below w.heap.size w w') :
  CallOk W Tryz.prog nt o (wordsL ws c x d) := by
 intro s m g f a w Q hgood h
 unfold wordsL at hgood ⊢
 split at hgood <;> try exact hgood.elim
 rename_i b hx
 have hg0 := hgood none 0
 simp only [RG.Good, SB.val_sym] at hg0
 refine call_wp hc h.slots rfl (l := .one (.str b) :: r) ?_ hfn (hk b w f hg0 h.old) ?_
 · simp only [evalList, evalO, hx, hys]
 · rintro en w' ⟨a', c', rfl, hown, hb⟩
   refine ⟨_, rfl, a', c', rfl, f, ?_⟩
   rw [hdst]
   refine h.callOwn hb hd (o := ⟨9, 1, a', (ws b).length, c', strs (ws b)⟩) ?_
   show w'.ownsRow w.heap.size 9 1 (.slice a' (ws b).length c') (ws b).length ((strs (ws b)).map (SV.den fun _ => 0))
   rw [strs_den]
   exact hown
def lim3 (s : ByteArray) : Bool := decide (s.size ≤ 3000000000)
noncomputable def ops49w : Array Oper := match bodyOf Tryz.f49 with
 | .seq _ (.seq (.region _ o _) _) => o
 | _ => #[]
noncomputable def op49w : Oper := match ops49w.toList[1]? with
 | some o => o
 | none => { dst := none, op := .move (.const (.bool true)), type := 0, pos := "", after := #[], guard := none }
theorem words_ok (W : Bs) : CallOk W Tryz.prog 111 op49w (wordsL wdsR lim3 9 10) :=
 wordsL_ok (ys := []) (r := []) (gf := 81) (by kernel_rfl) (fun _ => rfl) (by kernel_rfl) (by decide) ⟨_, Tryz.func81, by kernel_rfl, by kernel_rfl⟩ fun b _ _ hb _ => words_calls (of_decide_eq_true hb)
structure Rq where
 st : Int
 a : Int
 d : Int
 b : FBw
def Rq.cells (r : Rq) : List SV := pinsA r.st r.a r.d r.b
def gw (ws : List ByteArray) (j : Nat) : ByteArray := (ws[j]?).getD emp
def stR' (ws : List ByteArray) : Nat → Int
 | 0 => 0
 | k + 1 => bif sEq (stN ((k + 1 : Nat) : Int)) (gw ws 0) then ((k + 1 : Nat) : Int) else stR' ws k
def few (ws : List ByteArray) : Bool := decide ((ws.length : Int) < 3)
def z0 : Rq := ⟨0, 0, 0, fun _ => false⟩
def rdQ (ws : List ByteArray) : Rq := ⟨stR' ws 10, IntKind.u16.wrap (numR (gw ws 1)), IntKind.u8.wrap (numR (gw ws 2)), fun i => memL (nmi i) (ws.drop 3)⟩
def rdLn (s : ByteArray) : Rq := bif few (wdsR s) then z0 else rdQ (wdsR s)
theorem wsN_size (s : ByteArray) : ∀ v, ∀ x ∈ (wsN s v).2, x.size ≤ s.size
 | 0, x, hx => by simp [wsN] at hx
 | v + 1, x, hx => by
  unfold wsN at hx
  cases hc : cd81 s (v : Int)
  · rw [hc, cond_false] at hx
    exact wsN_size s v x hx
  · rw [hc, cond_true] at hx
    rcases List.mem_append.1 hx with h | h
    · exact wsN_size s v x h
    · rw [List.mem_singleton] at h
      subst h
      unfold wd
      rw [ByteArray.size_extract]
      omega
theorem wdsR_size {s x : ByteArray} (h : x ∈ wdsR s) : x.size ≤ s.size := wsN_size s _ x h
theorem wdsR_len (s : ByteArray) : (wdsR s).length ≤ s.size + 1 := (wsN_le s _).2
theorem gw_row {W : World} {a : Option Addr} {n c : Nat} {ws : List ByteArray} (h : RowIsS W a n c ws) {j : Nat} (hj : j < n) : stW W a (j : Int) = gw ws j ∧ gw ws j ∈ ws := by
 have hl : j < ws.length := by rw [h.len]; exact hj
 have e := List.getElem?_eq_getElem hl
 unfold gw
 rw [e]
 exact ⟨h.val j _ e, List.getElem_mem hl⟩
theorem qst_row {W : World} {a : Option Addr} {n c : Nat} {ws : List ByteArray} (h : RowIsS W a n c ws) (hn : 3 ≤ n) : ∀ k, qst W a k = stR' ws k
 | 0 => rfl
 | k + 1 => by
  have e := (gw_row h (j := 0) (by omega)).1
  show (bif sEq (stN ((k + 1 : Nat) : Int)) (stW W a 0) then ((k + 1 : Nat) : Int) else qst W a k) = (bif sEq (stN ((k + 1 : Nat) : Int)) (gw ws 0) then ((k + 1 : Nat) : Int) else stR' ws k)
  rw [qst_row h hn k, ← e]
  rfl
theorem gok49 (W : World) : GOk W Tryz.prog (G49 W) := gok_cons (num82_ok W) (gok_cons (st45_ok W) (gok_cons (within_ok W) (gok_nil W)))
theorem inf4 : (Tryz.prog.info? 4).map (fun i => (i.zero, i.size, i.bytes)) = some (some (.bool false), 1, 1) := by kernel_rfl
theorem make49 (w : World) : (Instr.makeSlice 121 (.int .i64 14) (.int .i64 14)).run Tryz.prog w = .ok (.slice (some ⟨w.heap.size, 0, none⟩) 14 14) (w.alloc (.cells (dens (fun _ => 0) fb14) 4)) := by
 have h := inf4
 cases hi : Tryz.prog.info? 4 with
 | none => rw [hi] at h; cases h
 | some i =>
  rw [hi] at h
  simp only [Option.map_some, Option.some.injEq, Prod.mk.injEq] at h
  obtain ⟨h2, h3, h4⟩ := h
  have hr := run_make (P := Tryz.prog) w 121 4 i (.bool false) (by kernel_rfl) hi h2 .i64 .i64 14 14 (by decide) (by decide) (by rw [h4]; decide) (by decide)
  rw [h3] at hr
  have e : madeCells (Value.bool false).cells (Int.toNat 14 * 1) = dens (fun _ => 0) fb14 := by kernel_rfl
  rw [e] at hr
  exact hr
noncomputable def op49m : Oper := match ops49m.toList[0]? with
 | some o => o
 | none => { dst := none, op := .move (.const (.bool true)), type := 0, pos := "", after := #[], guard := none }
theorem hg49 {w : World} {i : Nat} {a : Option Addr} {n c : Nat} (h : RowS (hole w i) a n c) (x d : Int) : HGW (Bs.tail w i) Tryz.prog 111 (t49 (hole w i) (decide (3 ≤ n)) a n c (qst (hole w i) a 10) x d) tl49 := by
 obtain ⟨e, he⟩ : ∃ e : Code × Code × Code × Nat × Nat × Code, tl49 = .seq e.1 (.seq e.2.1 (.seq (.seq e.2.2.1 (.block e.2.2.2.1 (.loop lb49))) (.seq (.region e.2.2.2.2.1 ops49m false) e.2.2.2.2.2))) :=
  ⟨match tl49 with | .seq x1 (.seq x2 (.seq (.seq x3 (.block i _)) (.seq (.region j _ _) x4w))) => (x1, x2, x3, i, j, x4w) | _ => (.skip, .skip, .skip, 0, 0, .skip), by kernel_rfl⟩
 constructor
 rw [he]
 refine ⟨trivial, trivial, ⟨trivial, loop49 (W := Bs.tail w i) (fun _ _ => by omega) (gok49 _) h x d⟩, ?_, trivial⟩
 refine calls_cust (gok49 _) (fun c hc => ?_) (by simp)
 simp only [List.mem_cons, List.not_mem_nil, or_false] at hc
 subst hc
 refine callG_of (o := op49m) (by kernel_rfl) (by kernel_rfl) (mkF_ok (by kernel_rfl) (by decide) (fun a w => ?_) (fun _ => rfl))
 have hop : op49m.op = .makeSlice 121 (.const (.int .i64 14)) (.const (.int .i64 14)) := by kernel_rfl
 have h1 := make49 w
 simp only [execOp, hop, Sem.run_bind]
 show Result.andThen (Sem.run Tryz.prog (Instr.makeSlice 121 (Value.int IntKind.i64 14) (Value.int IntKind.i64 14)) w) _ = _
 rw [h1]
 rfl
end Go.Proofs.YtjmnolhkkpaodaaGreatDoor
namespace Go.Proofs.YtjmnolhkkpaodaaGreatDoor
open Go Go.Sx Go.RowKit
set_option maxRecDepth 100000
def BR (r : Rq) : BI := ⟨34, r.cells, true⟩
def RE49 (ws : List ByteArray) : RG := .br (few ws) (RL z34) (RL (BR (rdQ ws)))
noncomputable def cT (ws : List ByteArray) (a : Option Addr) (n c : Nat) (ow : Own) (v : TV) (Bl : List (Nat × BI)) : Bool := sameTV v (.one (.ptr 0 0)) && (sameB Bl [(0, z34)] && @decide (ow = ⟨9, 1, a, n, c, strs ws⟩ ∧ n = ws.length) (Classical.propDecidable _))
noncomputable def E49 (ws : List ByteArray) (S : SL) (Bl : List (Nat × BI)) (g : Gh) : RG := match S, g with
 | [(2, v2), (3, .one (.sl a n c))], [ow] => (RE49 ws).addVc (.sym (cT ws a n c ow v2 Bl))
 | _, _ => .fail
structure WsOk (ws : List ByteArray) : Prop where
 len : ws.length ≤ 3000000001
 size : ∀ x ∈ ws, x.size ≤ 3000000000
theorem okRS_ok {W : World} {a : Option Addr} {n c : Nat} (h : RowS W a n c) : okRS W a n c = true := @decide_eq_true _ (Classical.propDecidable _) h
theorem own_addr {w : World} {base : Nat} {e : TypeId} {size : Nat} {a : Option Addr} {k c n : Nat} {xs : List Value} (h : w.ownsRow base e size (.slice a k c) n xs) : (∀ q, a = some q → ∃ g, q = ⟨g, 0, none⟩) ∧ k ≤ c := by
 rcases h.2 with ⟨h1, _⟩ | ⟨g, cap, cur, h1, _, _, h2, _⟩
 · injection h1 with h1 h2 h3
   refine ⟨fun q hq => ?_, by omega⟩
   rw [h1] at hq
   cases hq
 · injection h1 with h1 h4 h5
   refine ⟨fun q hq => ⟨g, ?_⟩, by omega⟩
   rw [h1] at hq
   exact (Option.some.inj hq).symm
theorem own_block {a : Option Addr} {k c : Nat} : (Value.slice a k c).ownBlock = a.map Addr.block := by
 cases a <;> rfl
theorem rep14_ok {X : Bool} (h : X = true) : ∀ k, rep14 X k = true
 | 0 => h
 | k + 1 => by unfold rep14; rw [rep14_ok h k, h]; rfl
theorem pinsA_ext {st a d : Int} {b b' : FBw} (h : ∀ i, b i = b' i) : pinsA st a d b = pinsA st a d b' := by rw [funext h]
theorem tail49_ok (W : Bs) {ws : List ByteArray} (hws : WsOk ws) : CustOk W Tryz.prog 111 tl49 (custK [(2, false), (3, false)] [(0, false)] 1 (E49 ws)) := by
 refine custK_ok fun S Bl g f a w hgood hst => ?_
 unfold E49 at hgood ⊢
 split at hgood <;> try exact hgood.elim
 rename_i v2 sa n c ow
 obtain ⟨hg1, hg2⟩ := RG.good_addVc hgood
 have hc := hg2 (RG.good_is hg1)
 rw [SB.val_sym] at hc
 unfold cT at hc
 simp only [Bool.and_eq_true] at hc
 obtain ⟨h1, h2, h3⟩ := hc
 obtain ⟨rfl, rfl⟩ := @of_decide_eq_true _ (Classical.propDecidable _) h3
 have e1 := sameTV_eq h1
 have e2 := sameB_eq h2
 subst e1 e2
 have hown : w.ownsRow 0 9 1 (.slice sa ws.length c) ws.length (ws.map .string) := by
  have h4 := hst.gh.own 0 _ rfl
  unfold Own.rel at h4
  rw [← strs_den]
  exact h4
 have hoff : ∀ b, sa.map Addr.block = some b → b ≠ f 0 := by
  intro b hb hh
  exact hst.gh.off 0 _ rfl b (by rw [← hb]; exact own_block) 0 z34 (by rw [look_cons, if_pos rfl]) hh.symm
 obtain ⟨haddr, hlc⟩ := own_addr hown
 have hl := hws.len
 have hrow := rowS_own hown rfl (by omega) hoff
 refine wp_mono ?_ (fun e a w hp => RG.is_addVc hp)
 refine tail_wp (t := t49 (hole w (f 0)) (decide (3 ≤ ws.length)) sa ws.length c (qst (hole w (f 0)) sa 10) (X49 (hole w (f 0)) sa 1) (D49 (hole w (f 0)) sa 2)) hst (gok49 _) (hg49 hrow.row _ _) (n := 100000) (ks := []) (ke := [(2, false)]) ?_
 have hy := y49_eq (hole w (f 0)) (decide (3 ≤ ws.length)) sa ws.length c (qst (hole w (f 0)) sa 10)
 unfold y49 S49 at hy
 rw [hy]
 have hfew : few ws = decide ((ws.length : Int) < 3) := rfl
 constructor
 refine ⟨fun h0 => ?_, fun h0 => ?_⟩
 · refine ⟨rfl, z34, rfl, fun f2 a2 w2 e' he' h5 => ?_⟩
   show GPost W 111 (RG.br (few ws) (RL z34) (RL (BR (rdQ ws)))) e' a2 w2
   rw [hfew, h0]
   exact ⟨fun _ => ⟨he', f2, h5⟩, fun h => by cases h⟩
 · have hn3 : 3 ≤ ws.length := by have := of_decide_eq_false h0; omega
   have g1 := gw_row hrow (j := 1) (by omega)
   have g2 := gw_row hrow (j := 2) (by omega)
   have hcut := cutA_row hrow haddr (k := 3) hn3 hlc
   have hz : (SB.sym (cA49 (hole w (f 0)) sa ws.length && (k49 (decide (3 ≤ ws.length)) sa ws.length c (X49 (hole w (f 0)) sa 1) (D49 (hole w (f 0)) sa 2) && rep14 (w49 (hole w (f 0)) sa ws.length c) 13))).val = true := by
    have i1 := inRow_ok hrow.row.nil (show 1 < ws.length by omega)
    have i2 := inRow_ok hrow.row.nil (show 2 < ws.length by omega)
    have o1 := hrow.row.at_ 1 (by omega)
    have o2 := hrow.row.at_ 2 (by omega)
    have s1 := hws.size _ g1.2
    have s2 := hws.size _ g2.2
    rw [← g1.1] at s1
    rw [← g2.1] at s2
    have l1 : lz (stW (hole w (f 0)) sa 1) = true := decide_eq_true (by have : (stW (hole w (f 0)) sa 1).size ≤ 3000000000 := s1; omega)
    have l2 : lz (stW (hole w (f 0)) sa 2) = true := decide_eq_true (by have : (stW (hole w (f 0)) sa 2).size ≤ 3000000000 := s2; omega)
    have c1 : cA49 (hole w (f 0)) sa ws.length = true := by
     unfold cA49
     rw [show inRow sa ws.length 1 = true from i1, show inRow sa ws.length 2 = true from i2, show okS (hole w (f 0)) sa 1 = true from o1, show okS (hole w (f 0)) sa 2 = true from o2, l1, l2]
     rfl
    have c2 : k49 (decide (3 ≤ ws.length)) sa ws.length c (X49 (hole w (f 0)) sa 1) (D49 (hole w (f 0)) sa 2) = true := by
     unfold k49
     rw [decide_eq_true hn3, sameS_refl (by rfl), sameB_refl (by rfl), @decide_eq_true _ (Classical.propDecidable _) rfl]
     rfl
    have c3 : w49 (hole w (f 0)) sa ws.length c = true := by
     unfold w49
     rw [okRS_ok hcut.row, decide_eq_true (by omega)]
     rfl
    rw [SB.val_sym, c1, c2, rep14_ok c3]
    rfl
   refine ⟨hz, BR (rdQ ws), ?_, fun f2 a2 w2 e' he' h5 => ?_⟩
   · have e5 : pinsA (qst (hole w (f 0)) sa 10) (X49 (hole w (f 0)) sa 1) (D49 (hole w (f 0)) sa 2) (mf49 (hole w (f 0)) sa ws.length c) = (rdQ ws).cells := by
      unfold Rq.cells rdQ
      dsimp only
      rw [qst_row hrow hn3]
      unfold X49 D49
      rw [show stW (hole w (f 0)) sa 1 = gw ws 1 from g1.1, show stW (hole w (f 0)) sa 2 = gw ws 2 from g2.1]
      refine pinsA_ext fun i => ?_
      unfold mf49
      rw [memN_list hcut _ _ (Nat.le_refl _), List.take_of_length_le (by rw [hcut.len]; exact Nat.le_refl _)]
     rw [e5]
     rfl
   · show GPost W 111 (RG.br (few ws) (RL z34) (RL (BR (rdQ ws)))) e' a2 w2
     rw [hfew, h0]
     exact ⟨fun h => (by cases h), fun _ => ⟨he', f2, h5⟩⟩
noncomputable def t49x (W : World) (ws : List ByteArray) : HG := .seq .plain (.seq (.cust (runCalls Tryz.prog W [] 100000 111 ops49w [⟨1, wordsL wdsR lim3 9 10⟩] 0)) (.cust (custK [(2, false), (3, false)] [(0, false)] 1 (E49 ws))))
noncomputable def x49 (W : World) (s : ByteArray) (ws : List ByteArray) : RG := (runG Tryz.prog W [] 100000 111 (t49x W ws) (bodyOf Tryz.f49) (argSlots 0 [.one (.str s)]) noMem []).slim 1 [] [] [(2, false)] [(0, false)]
noncomputable def q49 (s : ByteArray) (ws : List ByteArray) (a : Option Addr) (c : Nat) : SB := .sym (lim3 s && cT ws a (wdsR s).length c ⟨9, 1, a, (wdsR s).length, c, strs (wdsR s)⟩ (.one (.ptr 0 0)) [(0, z34)])
def LR (c : SB) (bi : BI) : RG := .leaf .ret c [(2, .one (.ptr 0 0))] ⟨[], [(0, bi)], 1⟩ []
theorem x49_eq (W : World) (s : ByteArray) (ws : List ByteArray) : x49 W s ws = .any fun a c => .br (few ws) (LR (q49 s ws a c) z34) (LR (q49 s ws a c) (BR (rdQ ws))) := by kernel_rfl
theorem hg49x {W : World} {ws : List ByteArray} (hws : WsOk ws) : HGW (Bs.of W) Tryz.prog 111 (t49x W ws) (bodyOf Tryz.f49) := by
 obtain ⟨e, he⟩ : ∃ e : Code × Nat, bodyOf Tryz.f49 = .seq e.1 (.seq (.region e.2 ops49w false) tl49) :=
  ⟨match bodyOf Tryz.f49 with | .seq x1 (.seq (.region j _ _) _) => (x1, j) | _ => (.skip, 0), by kernel_rfl⟩
 constructor
 rw [he]
 refine ⟨trivial, ?_, tail49_ok _ hws⟩
 refine calls_cust (gok_nil _) (fun c hc => ?_) (by simp)
 simp only [List.mem_cons, List.not_mem_nil, or_false] at hc
 subst hc
 exact callG_of (o := op49w) (by kernel_rfl) (by kernel_rfl) (words_ok _)
theorem wsOk (s : ByteArray) (hs : lim3 s = true) : WsOk (wdsR s) := by
 have h := of_decide_eq_true hs
 exact ⟨by have := wdsR_len s; omega, fun x hx => by have := wdsR_size hx; omega⟩
theorem sameTV_self : sameTV (.one (.ptr 0 0)) (.one (.ptr 0 0)) = true := rfl
theorem q49_ok (s : ByteArray) (hs : lim3 s = true) (a : Option Addr) (c : Nat) : (q49 s (wdsR s) a c).val = true := by
 unfold q49
 rw [SB.val_sym, hs]
 unfold cT
 rw [sameTV_self, sameB_refl (by rfl), @decide_eq_true _ (Classical.propDecidable _) ⟨rfl, rfl⟩]
 rfl
theorem read49_calls {W : World} {s : ByteArray} (hs : lim3 s = true) : Calls Tryz.prog 49 #[.string s] W fun en w' => en = .returned (.agg (dens (fun _ => 0) (rdLn s).cells)) ∧ Below W.heap.size W w' := by
 have hn : Tryz.f49.ntmps = 111 := by kernel_rfl
 have hcalls := calls_of_runG (gok_nil W) (n := 100000) (g := 49) Tryz.func49 (show Tryz.f49.body = some (bodyOf Tryz.f49) by kernel_rfl) (t := t49x W (wdsR s)) (args := [.one (.str s)]) (by rw [hn]; exact (hg49x (wsOk s hs)).h) (by rw [hn]; simp)
  (R := fun v _ => ∃ l, v = .agg l ∧ ∀ f : Nat → Nat, dens f l = dens (fun _ => 0) (rdLn s).cells) (N := 1) (ks := []) (bs := []) (ke := [(2, false)]) (be := [(0, false)]) rfl rfl ?_
 · refine hcalls.mono ?_
   rintro en w' ⟨v, g, f, ⟨l, rfl, hl⟩, rfl, _, hb⟩
   refine ⟨?_, hb⟩
   rw [← hl f]
   rfl
 · rw [hn]
   show (x49 W s (wdsR s)).All _
   rw [x49_eq]
   intro a c
   have hr : rdLn s = bif few (wdsR s) then z0 else rdQ (wdsR s) := rfl
   refine ⟨fun h0 => ?_, fun h0 => ?_⟩
   · rw [h0, cond_true] at hr
     refine ⟨q49_ok s hs a c, .inr rfl, [(true, z34.init)], .agg z34.init, by kernel_rfl, rfl, z34.init, rfl, fun f => ?_⟩
     rw [hr]
     rfl
   · rw [h0, cond_false] at hr
     refine ⟨q49_ok s hs a c, .inr rfl, [(true, (rdQ (wdsR s)).cells)], .agg (rdQ (wdsR s)).cells, by kernel_rfl, rfl, (rdQ (wdsR s)).cells, rfl, fun f => ?_⟩
     rw [hr]
     rfl
def F49 : List TV → Option (SB × TV)
 | [.one (.str s)] => some (.sym (lim3 s), .agg (rdLn s).cells)
 | _ => none
theorem read49_ok (W : World) : SpecOk W Tryz.prog 49 (specV F49) := by
 refine specV_calls ⟨Tryz.f49, Tryz.func49, by kernel_rfl, by kernel_rfl⟩ fun args c v hv hc => ?_
 unfold F49 at hv
 split at hv <;> try contradiction
 rename_i s
 simp only [Option.some.injEq, Prod.mk.injEq] at hv
 obtain ⟨rfl, rfl⟩ := hv
 refine ⟨by simp, fun w _ f => ?_⟩
 refine (read49_calls (s := s) hc).mono ?_
 rintro en w' ⟨rfl, hb⟩
 exact ⟨rfl, hb⟩
end Go.Proofs.YtjmnolhkkpaodaaGreatDoor
namespace Go.Sx
open Go Go.RowKit
set_option maxRecDepth 100000
section
variable {W : Bs} {P : Program} {nt : Nat} {s : SL} {m : Mem} {g : Gh} {f : Nat → Nat} {a : Act} {w : World}
theorem HoldS.sub {m1 : Mem} (h : HoldS W m f w) (hg : ∀ b o v, m1.get b o = some v → m.get b o = some v) (hb : ∀ b i, look m1.blks b = some i → look m.blks b = some i) : HoldS W m1 f w :=
 ⟨fun b o v hv => h.1 b o v (hg b o v hv), fun b i hi => h.2.1 b i (hb b i hi), h.2.2⟩
theorem GSt.reslot (h : GSt W nt s m g f a w) {s' : SL} (hs : ∀ t v, look s' t = some v → v ≠ .un → ∃ v0, look s t = some v0 ∧ v0 ≠ .un ∧ v.den f = v0.den f) : GSt W nt s' m g f a w :=
 ⟨h.size, h.defers, fun t v hv hne => by
  obtain ⟨v0, h1, h2, h3⟩ := hs t v hv hne
  rw [h3]
  exact h.slots t v0 h1 h2, h.mem, h.base, h.fr, h.pin, h.gh⟩
theorem wpAnyH_weak {ops : Array Oper} {Q : Exit → Act → World → Prop} {S S' : World → Prop} (hS : ∀ w, S' w → S w) : ∀ (fuel : Nat) (l : Array Bool) (a : Act) (w : World), wpAnyH P .any ops Q S' fuel l a w → wpAnyH P .any ops Q S fuel l a w
 | 0, l, a, w, h => h
 | fuel + 1, l, a, w, h => ⟨h.1, fun i hi => wpOp_mono (fun a' w' h3 => ⟨hS _ h3.1, wpAnyH_weak hS fuel _ a' w' h3.2⟩) (h.2 i hi)⟩
def takeN (P : Program) (W : World) (nt : Nat) (ops : Array Oper) (m : Mem) : List Nat → Array Bool → SL → Option (Array Bool × SL)
 | [], l, s => some (l, s)
 | i :: r, l, s => match ops.toList[i]? with
  | some o => match o.dst with
   | some d => match Nat.blt d nt && ((Region.free .any ops l i) && (Region.ready .any ops l).contains i) with
    | true => match guardS ops (look s) o with
     | .yes => match (prim P W o 0 (look s) m.get (look m.blks)).get with
      | some ⟨.lit true, v, [], none⟩ => match oneT v with
       | true => takeN P W nt ops m r (l.setIfInBounds i true) (putS (some d) v s)
       | false => none
      | _ => none
     | .no => takeN P W nt ops m r (l.setIfInBounds i true) (putS (some d) .ud s)
     | _ => none
    | false => none
   | none => none
  | none => none
theorem GSt.putV (h : GSt W nt s m g f a w) {d : Nat} (hd : d < nt) {v : TV} {u : Value} (hv : u = v.den f) : GSt W nt (putS (some d) v s) m g f (a.put (some d) u) w :=
 ⟨by simp [Act.put, h.size], by simp [Act.put, h.defers], h.slots.put h.size (by simp [dstOk, Nat.blt]; omega) (.inr hv), h.mem, h.base, h.fr, h.pin, h.gh⟩
theorem takeN_ok {ops : Array Oper} {S : World → Prop} {m1 : Mem} (hS : ∀ w, S w → HoldS W m1 f w) (hs : Region.noSelect ops = true) {Q : Exit → Act → World → Prop} (hQ : ∀ c a w, ¬ Q (.panic c) a w) : ∀ {L : List Nat} {l l' : Array Bool} {s s' : SL} {a : Act} {w : World}, takeN P W.W nt ops m1 L l s = some (l', s') → S w → GSt W nt s m g f a w → ∀ {fuel : Nat},
  (∀ a', GSt W nt s' m g f a' w → wpAnyH P .any ops Q S fuel l' a' w) → wpAnyH P .any ops Q S (fuel + L.length) l a w
 | [], l, l', s, s', a, w, h, _, hg, fuel, hn => by
  simp only [takeN, Option.some.injEq, Prod.mk.injEq] at h
  obtain ⟨rfl, rfl⟩ := h
  exact hn a hg
 | i :: r, l, l', s, s', a, w, h, hw, hg, fuel, hn => by
  simp only [takeN] at h
  split at h <;> try contradiction
  rename_i o ho
  split at h <;> try contradiction
  rename_i d hdst
  split at h <;> try contradiction
  rename_i hc
  simp only [Bool.and_eq_true] at hc
  obtain ⟨hdn, hfr, hrd⟩ := hc
  have hdn : d < nt := lt_of_blt hdn
  have ho' : ops[i]? = some o := by rw [← Array.getElem?_toList]; exact ho
  rw [List.length_cons, ← Nat.add_assoc]
  split at h
  · rename_i hgy
    split at h <;> try contradiction
    rename_i v hprim
    split at h <;> try contradiction
    rename_i hv
    obtain ⟨hv1, hv2⟩ := oneT_ne hv
    have hrun : ∀ w', S w' → (execOp a.eval o).run P w' = .ok (.value (v.den f)) w' := by
     intro w' hw'
     obtain ⟨h1, h2, h3⟩ := hS w' hw'
     obtain ⟨x, u, h4, h5, h6, _, _⟩ := prim_sound (nid := 0) hprim rfl hg.slots h1 h2 h3
     have hu : u = v.den f := by
      rcases h6 with h6 | h6
      · exact absurd h6 hv1
      · exact h6
     subst hu
     rcases h5 with rfl | ⟨_, h5⟩
     · exact h4
     · exact absurd h5 (hv2 f)
    refine wpAnyH_take (v := v.den f) ho' hs hfr hrd (fun c a w hq => absurd hq (hQ _ _ _)) (.inl ⟨guard_yes hg.slots hgy, hrun⟩) hw ?_
    rw [hdst]
    exact takeN_ok hS hs hQ h hw (hg.putV hdn rfl) hn
  · rename_i hgn
    refine wpAnyH_take (v := undef) ho' hs hfr hrd (fun c a w hq => absurd hq (hQ _ _ _)) (.inr ⟨guard_no hg.slots hgn, rfl⟩) hw ?_
    rw [hdst]
    exact takeN_ok hS hs hQ h hw (hg.putV hdn rfl) hn
  · contradiction
theorem step_wp {o : Oper} {e : Eff} (h : GSt W nt s m g f a w) (hr : EffRun P o a w f m.next (look m.blks) e) (hnb : e.nb = none) (hd : dstOk nt o.dst = true) (hrw : allRw m = true) {K : Act → World → Prop} {Q : Exit → Act → World → Prop}
  (hK : ∀ a' w', GSt W nt (putS o.dst e.val s) (putM e m) g f a' w' → K a' w') : o.wp P a w K Q := by
 obtain ⟨x, u, hrun, hx, hv, hws, _⟩ := hr
 obtain ⟨c, v, ws, nb⟩ := e
 dsimp only at hnb
 subst hnb
 have hrel := h.rel
 obtain ⟨h1, h2⟩ := hrel.mem.writes hrel.fr hws
 have hput : (a.put o.dst u).tmps.size = nt ∧ (a.put o.dst u).defers = [] := by
  cases o.dst <;> simp [Act.put, h.size, h.defers]
 have hst : GSt W nt (putS o.dst v s) (putM ⟨c, v, ws, none⟩ m) g f (a.put o.dst u) (applyWs f ws w) :=
  h.next ⟨hput.1, hput.2, hrel.slots.put hrel.size hd hv, h1, h2⟩ hrw (Ext.refl _ _) (Nat.le_refl _)
 have hrun' : (execOp a.eval o).run P w = .ok x (applyWs f ws w) := hrun
 unfold Oper.wp
 rw [hrun']
 rcases hx with rfl | ⟨rfl, rfl⟩
 · rw [Oper.upon_value]
   exact hK _ _ hst
 · rw [Oper.upon_skip]
   exact hK _ _ hst
end
end Go.Sx
namespace Go.Proofs.YtjmnolhkkpaodaaGreatDoor
open Go Go.Sx Go.RowKit
set_option maxRecDepth 100000
noncomputable def G23 : List (Nat × Sx.Spec) := [(52, specV (FNum numD))]
noncomputable def lb23 : Code := match bodyOf Tryz.f23 with
 | .seq _ (.seq _ (.seq _ (.seq _ (.seq _ (.seq (.seq _ (.block _ (.loop b))) _))))) => b
 | _ => .skip
def p34b (st x d : Int) (b : FBw) : BI := ⟨34, pinsA st x d b, true⟩
def SP23 (s : ByteArray) (a : Option Addr) (n c : Nat) (v : Int) : SL := [(0, .one (.str s)), (2, .one (.ptr 0 0)), (5, .one (.ptr 1 0)), (58, .one (.sl a n c)), (59, .one (.int .i64 (.sym (n : Int)))), (60, .one (.int .i64 (.sym v)))]
def ks23 : List (Nat × Bool) := [(0, false), (2, false), (5, false), (58, false), (59, false), (60, true)]
def B23 (st x d : Int) (b : FBw) : List (Nat × BI) := [(0, z34), (1, p34b st x d b)]
noncomputable def r23 (W : World) (s : ByteArray) (a : Option Addr) (n c : Nat) (v st x d : Int) (b : FBw) : RG := (runG Tryz.prog W G23 100000 88 .plain lb23 (SP23 s a n c v) ⟨[], B23 st x d b, 3⟩ []).slim 3 ks23 [(0, false), (1, true)] [(0, false), (2, false), (5, false)] [(0, false), (1, true)]
noncomputable def tl23 : Code := match bodyOf Tryz.f23 with
 | .seq _ (.seq _ c) => c
 | _ => .skip
noncomputable def la23 : Code := match tl23 with
 | .seq _ (.seq _ (.seq _ (.seq _ c))) => c
 | _ => .skip
def okD (s : ByteArray) (p : PinV) : Bool := bif decide (p.st = 0) then false else sEq p.txt s
def pvB (st x d : Int) (b : FBw) : PinV := ⟨st, x, d, [b 0, b 1, b 2, b 3, b 4, b 5, b 6, b 7, b 8, b 9, b 10, b 11, b 12, b 13]⟩
noncomputable def c23l (st x d : Int) (b : FBw) (v2 v5 : TV) (Bl : List (Nat × BI)) : Bool := sameTV v2 (.one (.ptr 0 0)) && (sameTV v5 (.one (.ptr 1 0)) && (sameB Bl (B23 st x d b) && rngP (pvB st x d b)))
noncomputable def E23l (st x d : Int) (b : FBw) (S : SL) (Bl : List (Nat × BI)) (g : Gh) : RG := match S, g with
 | [(0, .one (.str s)), (2, v2), (5, v5)], [] => .leaf .nrm (.sym (c23l st x d b v2 v5 Bl)) [(2, .one (.ptr 0 0)), (3, .one (.bool (.sym (okD s (pvB st x d b)))))] ⟨[], [(0, ⟨34, pinsA st x d b, true⟩)], 3⟩ []
 | _, _ => .fail
noncomputable def K23l (st x d : Int) (b : FBw) : SL → Mem → Gh → RG := custK [(0, false), (2, false), (5, false)] [(0, false), (1, true)] 3 (E23l st x d b)
def orN (W : World) (a : Option Addr) (b : FBw) : Nat → FBw
 | 0 => b
 | v + 1 => fun i => bif sEq (nmi i) (stW W a (v : Int)) then true else orN W a b v i
def End23 (s : ByteArray) (st x d : Int) (b : FBw) : RG := .leaf (.exit 2) (.lit true) [(0, .one (.str s)), (2, .one (.ptr 0 0)), (5, .one (.ptr 1 0))] ⟨[], B23 st x d b, 3⟩ []
noncomputable def h23w (s : ByteArray) (a : Option Addr) (n c : Nat) (st x d : Int) (b b' : FBw) (cf : Bool) : LG := .at_ cf ks23 [(0, false), (1, true)] 3 (SP23 s a n c 0) (B23 st x d b) [] (End23 s st x d b')
noncomputable def t23 (s : ByteArray) (a : Option Addr) (n c : Nat) (st x d : Int) (b b' : FBw) (cf : Bool) : HG := .seq .plain (.seq .plain (.seq .plain (.seq (.seq .plain (.block (.loop (h23w s a n c st x d b b' cf)))) (.seq (.cust (K23l st x d b')) .plain))))
def S23 (s : ByteArray) (a : Option Addr) (n c : Nat) : SL := [(0, .one (.str s)), (2, .one (.ptr 0 0)), (3, .one (.bool (.lit false))), (4, .one (.sl a n c))]
noncomputable def y23 (W : World) (s : ByteArray) (a : Option Addr) (n c : Nat) (a' : Option Addr) (n' c' : Nat) (st x d : Int) (b b' : FBw) (cf : Bool) : RG := (runG Tryz.prog W G23 100000 88 (t23 s a' n' c' st x d b b' cf) tl23 (S23 s a n c) ⟨[], [(0, z34)], 1⟩ []).slim 1 [] [(0, false)] [(2, false), (3, false)] [(0, false)]
def fF : FBw := fun _ => false
theorem r23_eq (W : World) (s : ByteArray) (a : Option Addr) (n c : Nat) (v st x d : Int) (b : FBw) : r23 W s a n c v st x d b = .br (decide (v < (n : Int))) (.leaf .nrm (.sym (inRow a n v && okS W a v)) (SP23 s a n c (gadd .i64 v 1)) ⟨[], B23 st x d (fun i => bif sEq (nmi i) (stW W a v) then true else b i), 3⟩ []) (End23 s st x d b) := by kernel_rfl
def few23 (W : World) (a : Option Addr) (n : Nat) : Bool := bif decide ((n : Int) < 3) then true else bif !decide (((stW W a 1).size : Int) = 4) then true else !decide (((stW W a 2).size : Int) = 2)
def v17 (W : World) (a : Option Addr) (n : Nat) : Bool := bif decide ((n : Int) < 3) then true else bif !decide (((stW W a 1).size : Int) = 4) then inRow a n 1 && okS W a 1 else inRow a n 1 && (okS W a 1 && (inRow a n 2 && okS W a 2))
def XD (W : World) (a : Option Addr) : Int := IntKind.u16.wrap (numD (stW W a 1))
def DD (W : World) (a : Option Addr) : Int := IntKind.u8.wrap (numD (stW W a 2))
noncomputable def k23 (cf : Bool) (s : ByteArray) (a : Option Addr) (n c : Nat) (st x d : Int) : Bool := cf && (sameS (SP23 s a n c 0) (SP23 s a n c 0) && (sameB (B23 st x d fF) (B23 st x d fF) && @decide (([] : Gh) = []) (Classical.propDecidable _)))
noncomputable def c23 (W : World) (s : ByteArray) (a : Option Addr) (n c : Nat) (b' : FBw) (cf : Bool) : Bool := v17 W a n && (cA49 W a n && (rep14 (g0S W a n 0) 9 && ((decide ((3 : Int) ≤ (n : Int)) && k23 cf s (cutA a c 3 1) (n - 3) (c - 3) (qst W a 10) (XD W a) (DD W a)) && c23l (qst W a 10) (XD W a) (DD W a) b' (.one (.ptr 0 0)) (.one (.ptr 1 0)) (B23 (qst W a 10) (XD W a) (DD W a) b'))))
theorem y23_eq (W : World) (s : ByteArray) (a : Option Addr) (n c : Nat) (b' : FBw) (cf : Bool) : y23 W s a n c (cutA a c 3 1) (n - 3) (c - 3) (qst W a 10) (XD W a) (DD W a) fF b' cf = .br (few23 W a n)
  (.leaf .ret (.sym (v17 W a n)) [(2, .one (.ptr 0 0)), (3, .one (.bool (.lit false)))] ⟨[], [(0, z34)], 1⟩ [])
  (.leaf .ret (.sym (c23 W s a n c b' cf)) [(2, .one (.ptr 0 0)), (3, .one (.bool (.sym (okD s (pvB (qst W a 10) (XD W a) (DD W a) b')))))] ⟨[], [(0, ⟨34, pinsA (qst W a 10) (XD W a) (DD W a) b', true⟩)], 1⟩ []) := by kernel_rfl
end Go.Proofs.YtjmnolhkkpaodaaGreatDoor
namespace Go.Proofs.YtjmnolhkkpaodaaGreatDoor
open Go Go.Sx Go.RowKit
set_option maxRecDepth 100000
noncomputable def ops23l : Array Oper := match la23 with
 | .seq (.region _ o _) _ => o
 | _ => #[]
noncomputable def op23l (i : Nat) : Oper := match ops23l.toList[i]? with
 | some o => o
 | none => op49w
def ag (st x d : Int) (b : FBw) : TV := .agg (pinsA st x d b)
def S23l (s : ByteArray) : SL := [(0, .one (.str s)), (2, .one (.ptr 0 0)), (5, .one (.ptr 1 0))]
def SA (s : ByteArray) (st x d : Int) (b : FBw) (q : Bool) : SL := [(81, .one (.bool (.lit q))), (77, ag st x d b), (0, .one (.str s)), (2, .one (.ptr 0 0)), (5, .one (.ptr 1 0))]
def SX (s t : ByteArray) (st x d : Int) (b : FBw) : SL := [(84, .one (.str t)), (85, .one (.str s)), (81, .one (.bool (.lit true))), (77, ag st x d b), (2, .one (.ptr 0 0))]
def SC (st x d : Int) (b : FBw) (v : Bool) : SL := [(87, .one (.bool (.sym v))), (77, ag st x d b), (2, .one (.ptr 0 0))]
def m23l (st x d : Int) (b : FBw) : Mem := ⟨[], [(1, p34b st x d b)], 3⟩
def M23 (st x d : Int) (b : FBw) : Mem := ⟨[], B23 st x d b, 3⟩
def lv23 (l : List Nat) : Array Bool := l.foldl (fun a i => a.setIfInBounds i true) (Array.replicate 13 false)
def TA (s : ByteArray) (st x d : Int) (b : FBw) : SL := [(81, .one (.bool (.sym (!(st == 0))))), (80, .one (.bool (.sym (!(st == 0))))), (79, .one (.int .i64 (.sym st))), (78, .one (.ptr 1 0)), (77, ag st x d b), (0, .one (.str s)), (2, .one (.ptr 0 0)), (5, .one (.ptr 1 0))]
theorem takeA (W : World) (s : ByteArray) (st x d : Int) (b : FBw) : takeN Tryz.prog W 88 ops23l (m23l st x d b) [0, 1, 2, 3, 4] (lv23 []) (S23l s) = some (lv23 [0, 1, 2, 3, 4], TA s st x d b) := by kernel_rfl
theorem takeB0 (W : World) (s : ByteArray) (st x d : Int) (b : FBw) : takeN Tryz.prog W 88 ops23l (m23l st x d b) [5, 6, 7, 8, 9, 10] (lv23 [0, 1, 2, 3, 4]) (SA s st x d b false) = some (lv23 [0, 1, 2, 3, 4, 5, 6, 7, 8, 9, 10], (87, .one (.bool (.lit false))) :: (86, .ud) :: (85, .ud) :: (84, .ud) :: (83, .ud) :: (82, .ud) :: SA s st x d b false) := by kernel_rfl
theorem takeB1 (W : World) (s : ByteArray) (st x d : Int) (b : FBw) : takeN Tryz.prog W 88 ops23l (m23l st x d b) [5, 8] (lv23 [0, 1, 2, 3, 4]) (SA s st x d b true) = some (lv23 [0, 1, 2, 3, 4, 5, 8], (85, .one (.str s)) :: (82, ag st x d b) :: SA s st x d b true) := by kernel_rfl
theorem takeX (W : World) (s t : ByteArray) (st x d : Int) (b : FBw) : takeN Tryz.prog W 88 ops23l (m23l st x d b) [9, 10] (lv23 [0, 1, 2, 3, 4, 5, 6, 7, 8]) (SX s t st x d b) = some (lv23 [0, 1, 2, 3, 4, 5, 6, 7, 8, 9, 10], (87, .one (.bool (.sym (sEq t s)))) :: (86, .one (.bool (.sym (sEq t s)))) :: SX s t st x d b) := by kernel_rfl
theorem takeE (W : World) (st x d : Int) (b : FBw) (v : Bool) : takeN Tryz.prog W 88 ops23l (m23l st x d b) [12] (lv23 [0, 1, 2, 3, 4, 5, 6, 7, 8, 9, 10, 11]) (SC st x d b v) = some (lv23 [0, 1, 2, 3, 4, 5, 6, 7, 8, 9, 10, 11, 12], (3, .one (.bool (.sym v))) :: SC st x d b v) := by kernel_rfl
theorem rdy11 : Region.ready .any ops23l (lv23 [0, 1, 2, 3, 4, 5, 6, 7, 8, 9, 10]) = [11] := by kernel_rfl
theorem rdy6 : Region.ready .any ops23l (lv23 [0, 1, 2, 3, 4, 5, 8]) = [6] := by kernel_rfl
theorem rdyE : Region.ready .any ops23l (lv23 [0, 1, 2, 3, 4, 5, 6, 7, 8, 9, 10, 11, 12]) = [] := by kernel_rfl
theorem nosel : Region.noSelect ops23l = true := by kernel_rfl
def wsC (st x d : Int) (b : FBw) : List (Nat × Nat × SV) := wsOf 0 0 (pinsA st x d b) []
theorem prim11 (W : World) (st x d : Int) (b : FBw) (v : Bool) : (prim Tryz.prog W (op23l 11) 3 (Sx.look (SC st x d b v)) (M23 st x d b).get (Sx.look (M23 st x d b).blks)).get = some ⟨.lit true, .un, wsC st x d b, none⟩ := by kernel_rfl
end Go.Proofs.YtjmnolhkkpaodaaGreatDoor
