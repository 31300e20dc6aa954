/- The makers Inputs and Script: what they hand back lies in new rows; what it is stays open. -/
import Derived.Test.YtdfplmkaaodblaaOwnC
import Derived.Test.YtdfplmkaaodblaaMakeI
namespace Go.Proofs.Ytdfplmkaaodblaa.dc
open Go Go.Sx Go.RowKit Go.Proofs.Ytdfplmkaaodblaa.mk
set_option maxRecDepth 100000
noncomputable def body21 : Code := match Try.f21.body with
  | some c => c
  | none => .skip
noncomputable def lo21 : Code := match body21 with
  | .seq _ (.seq _ (.seq _ (.seq (.block _ (.loop b)) _))) => b
  | _ => .skip
noncomputable def li21 : Code := match lo21 with
  | .seq _ (.block _ (.seq _ (.seq _ (.block _ (.loop b))))) => b
  | _ => .skip
def gA21 : GapSp := ⟨3, 34, 36, 37, 29, 32, 10, 10, 0⟩
def hi21 : HG := .seq .plain (.seq (.block (.gap gA21)) .plain)
structure Pi21 where
  es : List Ent
  oa : Option Addr
  oc : Nat
  k : Int
def nB (a : Option Addr) (n c : Nat) (x : Int) : Nat × BI := (0, ⟨46, [.sl a n c, .int .i64 (.sym x)], true⟩)
def SPi (m : Int) (p : Pi21) : SL := [(0, .one (.ptr 0 0)), (5, .one (.sl p.oa p.es.length p.oc)), (6, .one (.int .i64 (.sym m))), (7, .one (.ptr 1 0)), (8, .one (.int .i64 (.sym p.k)))]
def BPi (a : Option Addr) (n c : Nat) (x : Int) (e : Ent) (_ : Pi21) : List (Nat × BI) := [nB a n c x, (1, ⟨32, e.L, true⟩)]
def gE (oa : Option Addr) (oc : Nat) (es : List Ent) : Own := ⟨32, 10, oa, es.length, oc, ents es⟩
def GPi (p : Pi21) : Gh := [gE p.oa p.oc p.es]
def ksi : List (Nat × Bool) := [(0, true), (5, true), (6, true), (7, true), (8, true)]
def kso : List (Nat × Bool) := [(0, true), (5, true), (6, true)]
def g10 (oa : Option Addr) (n : Nat) (oc : Nat) : Bool := (decide (oa = oa) && (decide (n = n) && decide (oc = oc))) && (decide (n + 1 ≤ maxLen) && decide ((n + 1) * 10 ≤ 140737488355328))
theorem g10_ok {oa : Option Addr} {n oc : Nat} (h : n ≤ 1000) : g10 oa n oc = true := by
  unfold g10
  rw [decide_eq_true rfl, decide_eq_true rfl, decide_eq_true rfl, decide_eq_true (show n + 1 ≤ maxLen by unfold maxLen; omega), decide_eq_true (show (n + 1) * 10 ≤ 140737488355328 by omega)]
  rfl
theorem round21i (W : World) (m : Int) (a : Option Addr) (n c : Nat) (x : Int) (e : Ent) (p : Pi21) : (runG Try.prog W (GI W) 100000 39 hi21 li21 (SPi m p) ⟨[], BPi a n c x e p, 2⟩ (GPi p)).slim 2 ksi [(0, true), (1, true)] kso [(0, true)] =
    .br (bif decide (p.k ≥ 0) then decide ((p.es.length : Int) < m) else false)
      (.any fun a' c' => .leaf .nrm (.sym (g10 p.oa p.es.length p.oc)) [(0, .one (.ptr 0 0)), (5, .one (.sl a' (p.es.length + 1) c')), (6, .one (.int .i64 (.sym m))), (7, .one (.ptr 1 0)), (8, .one (.int .i64 (.sym (gsub .i64 p.k 1))))]
        ⟨[], BPi a n c x e p, 2⟩ [⟨32, 10, a', p.es.length + 1, c', ents p.es ++ e.L⟩])
      (.leaf (.exit 2) (.lit true) [(0, .one (.ptr 0 0)), (5, .one (.sl p.oa p.es.length p.oc)), (6, .one (.int .i64 (.sym m)))] ⟨[], [nB a n c x], 2⟩ (GPi p)) := by kernel_rfl
/-- What the loop over one entry comes to. -/
abbrev Grown (m : Int) (es0 : List Ent) := { es : List Ent // (es.length : Int) ≤ max m (es0.length + 1) ∧ es0.length < es.length }
def EndI (a : Option Addr) (n c : Nat) (x m : Int) (e : Ent) (es0 : List Ent) : RG :=
  .pick (⟨es0 ++ [e], by rw [List.length_append]; simp only [List.length_cons, List.length_nil]; omega⟩ : Grown m es0) fun es => .any fun oa oc =>
    .leaf (.exit 2) (.lit true) [(0, .one (.ptr 0 0)), (5, .one (.sl oa es.val.length oc)), (6, .one (.int .i64 (.sym m)))] ⟨[], [nB a n c x], 2⟩ [gE oa oc es.val]
structure InvI (m : Int) (es0 : List Ent) (p : Pi21) : Prop where
  le : (p.es.length : Int) ≤ m
  k : -1 ≤ p.k ∧ p.k ≤ 100
  new : es0.length < p.es.length ∨ (es0.length = p.es.length ∧ 0 ≤ p.k ∧ (p.es.length : Int) < m)
theorem step21i {W : Bs} {m : Int} {a : Option Addr} {n c : Nat} {x : Int} {e : Ent} {es0 : List Ent} (hm : m ≤ 1000) : StepOk W Try.prog (GI W.W) 100000 39 hi21 li21 2 ksi [(0, true), (1, true)] kso [(0, true)]
    (InvI m es0) (fun p => (m - p.es.length).toNat) (SPi m) (BPi a n c x e) GPi (EndI a n c x m e es0) := by
  constructor
  intro p hI
  rw [round21i]
  obtain ⟨es, oa, oc, k⟩ := p
  obtain ⟨hle, hk, hnew⟩ := hI
  dsimp only at hle hk hnew ⊢
  constructor
  · intro hc a' c'
    have hk0 : 0 ≤ k ∧ (es.length : Int) < m := by
      by_cases h : k ≥ 0
      · rw [decide_eq_true h, cond_true] at hc
        exact ⟨h, of_decide_eq_true hc⟩
      · rw [decide_eq_false h, cond_false] at hc
        cases hc
    refine ⟨by rw [SB.val_sym]; exact g10_ok (by omega), .inl ⟨rfl, ⟨es ++ [e], a', c', gsub .i64 k 1⟩, ?_, ?_, ?_, rfl, ?_⟩⟩
    · have hg : gsub .i64 k 1 = k - 1 := by
        unfold gsub
        rw [IntKind.wrap_i64]
        omega
      refine ⟨?_, ?_, ?_⟩
      · dsimp only
        rw [List.length_append, List.length_singleton]
        omega
      · dsimp only
        rw [hg]
        omega
      · left
        dsimp only
        rw [List.length_append, List.length_singleton]
        omega
    · dsimp only
      rw [List.length_append, List.length_singleton]
      omega
    · unfold SPi
      dsimp only
      rw [List.length_append, List.length_singleton]
    · unfold GPi gE
      dsimp only
      rw [List.length_append, List.length_singleton, ents_append, ents, ents, List.append_nil]
  · intro hc
    refine ⟨rfl, .inr ⟨by simp, fun f ac w hst e' he' => ?_⟩⟩
    have hlt : es0.length < es.length := by
      rcases hnew with h | ⟨_, h1, h2⟩
      · exact h
      · rw [decide_eq_true (show k ≥ 0 from h1), cond_true, decide_eq_true h2] at hc
        cases hc
    exact ⟨⟨es, by omega⟩, oa, oc, he', f, hst⟩
structure Po21 where
  es : List Ent
  oa : Option Addr
  oc : Nat
  x : Int
def SPo (m : Int) (p : Po21) : SL := [(0, .one (.ptr 0 0)), (5, .one (.sl p.oa p.es.length p.oc)), (6, .one (.int .i64 (.sym m)))]
def BPo (a : Option Addr) (n c : Nat) (p : Po21) : List (Nat × BI) := [nB a n c p.x]
def GPo (p : Po21) : Gh := [gE p.oa p.oc p.es]
noncomputable def entN (W : World) (a : Option Addr) (n c : Nat) (x : Int) : Ent := ⟨iB W a n c x 0, iB W a n c x 1, iB W a n c x 2, iB W a n c x 3, iB W a n c x 4, iB W a n c x 5, iB W a n c x 6, iB W a n c x 7, iI W a n c x 8, iI W a n c x 9⟩
noncomputable def x1 (W : World) (a : Option Addr) (n : Nat) (x : Int) : Int := iN W a n x
noncomputable def x2 (W : World) (a : Option Addr) (n : Nat) (x : Int) : Int := gadd .i64 (x1 W a n x) 1
noncomputable def x3 (W : World) (a : Option Addr) (n : Nat) (x : Int) : Int := gadd .i64 (x2 W a n x) 1
noncomputable def k0 (W : World) (a : Option Addr) (n : Nat) (x : Int) : Int := gmul .i64 (nxt W a n (x1 W a n x) 4) (nxt W a n (x2 W a n x) 5)
noncomputable def h2 (W : World) (m : Int) (a : Option Addr) (n c : Nat) (p : Po21) : LG :=
  .at_ (decide ((p.es.length : Int) < m)) ksi [(0, true), (1, true)] 2 (SPi m ⟨p.es, p.oa, p.oc, k0 W a n p.x⟩) (BPi a n c (x3 W a n p.x) (entN W a n c p.x) ⟨p.es, p.oa, p.oc, k0 W a n p.x⟩) (GPi ⟨p.es, p.oa, p.oc, k0 W a n p.x⟩)
    (EndI a n c (x3 W a n p.x) m (entN W a n c p.x) p.es)
noncomputable def to21 (W : World) (m : Int) (a : Option Addr) (n c : Nat) (p : Po21) : HG := .seq .plain (.block (.seq .plain (.seq .plain (.block (.loop (h2 W m a n c p))))))
noncomputable def atC (W : World) (m : Int) (a : Option Addr) (n c : Nat) (p : Po21) : Bool := decide ((p.es.length : Int) < m) && (sameS (SPi m ⟨p.es, p.oa, p.oc, k0 W a n p.x⟩) (SPi m ⟨p.es, p.oa, p.oc, k0 W a n p.x⟩) && (sameB (BPi a n c (x3 W a n p.x) (entN W a n c p.x) ⟨p.es, p.oa, p.oc, k0 W a n p.x⟩) (BPi a n c (x3 W a n p.x) (entN W a n c p.x) ⟨p.es, p.oa, p.oc, k0 W a n p.x⟩) && @decide ((GPi ⟨p.es, p.oa, p.oc, k0 W a n p.x⟩) = (GPi ⟨p.es, p.oa, p.oc, k0 W a n p.x⟩)) (Classical.propDecidable _)))
theorem atC_ok {W : World} {m : Int} {a : Option Addr} {n c : Nat} {p : Po21} (h : (p.es.length : Int) < m) : atC W m a n c p = true := by
  unfold atC
  rw [decide_eq_true h, sameS_refl (by rfl), sameB_refl (by rfl), @decide_eq_true _ (Classical.propDecidable _) rfl]
  rfl
noncomputable def cO (W : World) (m : Int) (a : Option Addr) (n c : Nat) (p : Po21) : Bool := (okRow W a n c && inB 8 p.x) && (((okRow W a n c && inB 0 (x1 W a n p.x)) && (okRow W a n c && inB 0 (x2 W a n p.x))) && atC W m a n c p)
theorem round21 (W : World) (m : Int) (a : Option Addr) (n c : Nat) (p : Po21) : (runG Try.prog W (GI W) 100000 39 (to21 W m a n c p) lo21 (SPo m p) ⟨[], BPo a n c p, 1⟩ (GPo p)).slim 1 kso [(0, true)] kso [(0, true)] =
    .br (decide ((p.es.length : Int) < m)) (.pick (⟨p.es ++ [entN W a n c p.x], by rw [List.length_append]; simp only [List.length_cons, List.length_nil]; omega⟩ : Grown m p.es) fun es => .any fun oa oc =>
      .leaf .nrm (.sym (cO W m a n c p)) (SPo m ⟨es.val, oa, oc, x3 W a n p.x⟩) ⟨[], BPo a n c ⟨es.val, oa, oc, x3 W a n p.x⟩, 1⟩ (GPo ⟨es.val, oa, oc, x3 W a n p.x⟩))
      (.leaf (.exit 0) (.lit true) (SPo m p) ⟨[], BPo a n c p, 1⟩ (GPo p)) := by kernel_rfl
/-- All entries that were asked for; how many numbers were taken is not told. -/
abbrev Full (m : Int) := { q : List Ent × Int // (q.1.length : Int) = max m 0 ∧ 0 ≤ q.2 ∧ q.2 ≤ 1 + 10 * max m 0 }
def fullD (m : Int) : Full m := ⟨(List.replicate m.toNat idleE, 0), by rw [List.length_replicate]; omega⟩
def EndO (a : Option Addr) (n c : Nat) (m : Int) : RG :=
  .pick (fullD m) fun q => .any fun oa oc => .leaf (.exit 0) (.lit true) (SPo m ⟨q.val.1, oa, oc, q.val.2⟩) ⟨[], BPo a n c ⟨q.val.1, oa, oc, q.val.2⟩, 1⟩ (GPo ⟨q.val.1, oa, oc, q.val.2⟩)
structure InvO (m : Int) (p : Po21) : Prop where
  le : (p.es.length : Int) ≤ max m 0
  x : 0 ≤ p.x ∧ p.x ≤ 1 + 10 * (p.es.length : Int)
theorem hgb21i : hgB Try.prog 39 hi21 li21 = true := by kernel_rfl
theorem hok21i (W : Bs) : HGOk W Try.prog 39 hi21 li21 := hgB_ok (W := W) (P := Try.prog) (nt := 39) hi21 li21 hgb21i
theorem k0_in {W : World} {a : Option Addr} {n : Nat} {x : Int} : 0 ≤ k0 W a n x ∧ k0 W a n x ≤ 100 := by
  have h1 := nxt_range W a n (x1 W a n x) (k := 4) (by decide) (by decide)
  have h2 := nxt_range W a n (x2 W a n x) (k := 5) (by decide) (by decide)
  unfold k0 gmul
  generalize nxt W a n (x1 W a n x) 4 = u at *
  generalize nxt W a n (x2 W a n x) 5 = v at *
  have hu : u = 0 ∨ u = 1 ∨ u = 2 ∨ u = 3 := by omega
  have hv : v = 0 ∨ v = 1 ∨ v = 2 ∨ v = 3 ∨ v = 4 := by omega
  rcases hu with rfl | rfl | rfl | rfl <;> rcases hv with rfl | rfl | rfl | rfl | rfl <;> decide
theorem loop21i (W : Bs) {m : Int} {a : Option Addr} {n c : Nat} {p : Po21} (hm : m ≤ 1000) : LoopGOk W Try.prog 39 li21 (h2 W.W m a n c p) := by
  refine loopG_step (gokI W.W) (hok21i W) rfl rfl (step21i hm) ?_ (fun _ _ => by decide)
  intro hc
  have := of_decide_eq_true hc
  have hk := k0_in (W := W.W) (a := a) (n := n) (x := p.x)
  exact ⟨⟨p.es, p.oa, p.oc, k0 W.W a n p.x⟩, ⟨by dsimp only; omega, by dsimp only; omega, .inr ⟨rfl, hk.1, this⟩⟩, rfl, rfl, .inl rfl⟩
theorem hok21 (W : Bs) {m : Int} {a : Option Addr} {n c : Nat} {p : Po21} (hm : m ≤ 1000) : HGOk W Try.prog 39 (to21 W.W m a n c p) lo21 := by
  have e : HGOk W Try.prog 39 (to21 W.W m a n c p) lo21 = (True ∧ (True ∧ True ∧ LoopGOk W Try.prog 39 li21 (h2 W.W m a n c p))) := by kernel_rfl
  rw [e]
  exact ⟨trivial, trivial, trivial, loop21i W hm⟩
theorem x_in {W : World} {a : Option Addr} {n : Nat} {x : Int} (h : 0 ≤ x ∧ x ≤ 20000) : inB 8 x = true ∧ inB 0 (x1 W a n x) = true ∧ inB 0 (x2 W a n x) = true ∧ x ≤ x3 W a n x ∧ x3 W a n x ≤ x + 10 := by
  have h8 : inB 8 x = true := inB_mk (by omega)
  have h1 := iN_in (W := W) (a := a) (n := n) h8
  have e2 : x2 W a n x = x1 W a n x + 1 := by unfold x2; exact gadd1 (m := 0) (inB_mk (by unfold x1; omega)) (by decide)
  have e3 : x3 W a n x = x1 W a n x + 2 := by
    unfold x3
    rw [gadd1 (m := 0) (inB_mk (by rw [e2]; unfold x1; omega)) (by decide), e2]
    omega
  unfold x1 at *
  exact ⟨h8, inB_mk (by omega), inB_mk (by rw [e2]; omega), by omega, by omega⟩
theorem step21 {W : Bs} {m : Int} {a : Option Addr} {n c : Nat} (hm : m ≤ 1000) (hr : RowOk W.W .i64 a n c) :
    StepOkT W Try.prog (GI W.W) 100000 39 lo21 1 kso [(0, true)] kso [(0, true)] (to21 W.W m a n c) (InvO m) (fun p => (m - p.es.length).toNat) (SPo m) (BPo a n c) GPo (EndO a n c m) := by
  constructor
  intro p hI
  rw [round21]
  have hx := x_in (W := W.W) (a := a) (n := n) (x := p.x) (by have := hI.x; have := hI.le; omega)
  constructor
  · intro hc es oa oc
    have hlt := of_decide_eq_true hc
    refine ⟨?_, .inl ⟨rfl, ⟨es.val, oa, oc, x3 W.W a n p.x⟩, ⟨?_, ?_⟩, ?_, rfl, rfl, rfl⟩⟩
    · rw [SB.val_sym]
      unfold cO
      rw [okRow_of hr, hx.1, hx.2.1, hx.2.2.1, atC_ok hlt]
      rfl
    · have := es.property.1
      dsimp only
      omega
    · have := es.property.2
      have := hI.x
      dsimp only
      omega
    · have := es.property
      dsimp only
      omega
  · intro hc
    have hge := of_decide_eq_false hc
    have hle := hI.le
    have hxx := hI.x
    refine ⟨rfl, .inr ⟨by simp, fun f ac w hst e' he' => ?_⟩⟩
    exact ⟨⟨(p.es, p.x), by dsimp only; omega⟩, p.oa, p.oc, he', f, hst⟩
noncomputable def m21 (W : World) (a : Option Addr) (n : Nat) (k : Int) : Int := nxt W a n 0 (gadd .i64 k 1)
noncomputable def h1 (m : Int) (a : Option Addr) (n c : Nat) : LG := .at_ true kso [(0, true)] 1 (SPo m ⟨[], none, 0, 1⟩) (BPo a n c ⟨[], none, 0, 1⟩) [] (EndO a n c m)
noncomputable def t21 (m : Int) (a : Option Addr) (n c : Nat) : HG := .seq .plain (.seq .plain (.seq .plain (.seq (.block (.loop (h1 m a n c))) .plain)))
noncomputable def c21 (W : World) (a : Option Addr) (n c : Nat) (k : Int) : Bool := ((okRow W a n c && inB 0 0) && (decide (0 < gadd .i64 k 1) && decide (gadd .i64 k 1 ≤ 9223372036854775807))) && (true && (sameS (SPo (m21 W a n k) ⟨[], none, 0, 1⟩) (SPo (m21 W a n k) ⟨[], none, 0, 1⟩) && (sameB (BPo a n c ⟨[], none, 0, 1⟩) (BPo a n c ⟨[], none, 0, 1⟩) && @decide (([] : Gh) = []) (Classical.propDecidable _))))
theorem whole21 (W : World) (a : Option Addr) (n c : Nat) (k : Int) : (runG Try.prog W (GI W) 100000 39 (t21 (m21 W a n k) a n c) body21 (argSlots 0 [.one (.ptr 0 0), .one (.int .i64 (.sym k))]) (nMem 46 a n c (.sym 0)) []).slim 1 [] [] [(4, false)] [(0, true)] =
    .pick (fullD (m21 W a n k)) fun q => .any fun oa oc => .leaf .ret (.sym (c21 W a n c k)) [(4, .one (.sl oa q.val.1.length oc))] ⟨[], [nB a n c q.val.2], 1⟩ [gE oa oc q.val.1] := by kernel_rfl
theorem loop21 (W : Bs) {m : Int} {a : Option Addr} {n c : Nat} (hm : m ≤ 1000) (hr : RowOk W.W .i64 a n c) : LoopGOk W Try.prog 39 lo21 (h1 m a n c) := by
  refine loopG_stepT (gokI W.W) (fun p _ => hok21 W hm) rfl rfl (step21 hm hr) ?_ (fun _ _ => by decide)
  intro _
  exact ⟨⟨[], none, 0, 1⟩, ⟨by simp only [List.length_nil]; omega, by simp only [List.length_nil]; omega⟩, rfl, rfl, .inr ⟨32, 10, rfl⟩⟩
/-- What Inputs hands back: a new slice of so many entries. -/
theorem inputs21 (W : Bs) {a : Option Addr} {n c : Nat} {k : Int} {j : Nat} (hj : W.X j) (hpin : W.pin = some j) (hr : RowOk W.W .i64 a n c) (hk : 0 ≤ k ∧ k ≤ 900)
    (hm : MOk W.w0 (fun i => ∃ b j', Go.Sx.look (nMem 46 a n c (.sym 0)).blks b = some j' ∧ (fun _ => j) b = i) (fun _ => j) (nMem 46 a n c (.sym 0)) W.w0) :
    Calls Try.prog 21 #[.pointer (some ⟨j, 0, none⟩), .int .i64 k] W.w0 fun en w' => ∃ (q : Full (m21 W.W a n k)) (oa : Option Addr) (oc : Nat) (f : Nat → Nat),
      en = .returned (.slice oa q.val.1.length oc) ∧ (gE oa oc q.val.1).rel W.w0.heap.size w' ∧ Fr W.W W.w0 W.X w' ∧ f 0 = j ∧ MOk w' (fun i => ∃ b j, Go.Sx.look [nB a n c q.val.2] b = some j ∧ f b = i) f ⟨[], [nB a n c q.val.2], 1⟩ w' := by
  have hg : gadd .i64 k 1 = k + 1 := by
    unfold gadd
    rw [IntKind.wrap_i64]
    omega
  have hM := nxt_range W.W a n 0 (k := gadd .i64 k 1) (by omega) (by omega)
  have hM' : 0 ≤ m21 W.W a n k ∧ m21 W.W a n k ≤ 900 := by unfold m21; omega
  have hcalls := calls_of_runX (W := W) (gokI W.W) (n := 100000) (g := 21) Try.func21 (show Try.f21.body = some body21 by kernel_rfl) (t := t21 (m21 W.W a n k) a n c) ?_ (args := [.one (.ptr 0 0), .one (.int .i64 (.sym k))]) (by rw [show Try.f21.ntmps = 39 by kernel_rfl]; simp)
    (R := fun v m g => ∃ (q : Full (m21 W.W a n k)) (oa : Option Addr) (oc : Nat), v = .one (.sl oa q.val.1.length oc) ∧ m = ⟨[], [nB a n c q.val.2], 1⟩ ∧ g = [gE oa oc q.val.1]) (N := 1) (ks := []) (bs := []) (ke := [(4, false)]) (be := [(0, true)]) rfl rfl hm ?_ ?_ (fun _ _ => by decide) ?_
  · refine hcalls.mono ?_
    rintro en w' ⟨v, m, g, f, ⟨q, oa, oc, rfl, rfl, rfl⟩, rfl, hown, hfr, hmm, _, hf⟩
    exact ⟨q, oa, oc, f, rfl, hown 0 _ rfl, hfr, hf j hpin, hmm⟩
  · have e : HGOk W Try.prog Try.f21.ntmps (t21 (m21 W.W a n k) a n c) body21 = (True ∧ True ∧ True ∧ (LoopGOk W Try.prog 39 lo21 (h1 (m21 W.W a n k) a n c)) ∧ True) := by kernel_rfl
    rw [e]
    exact ⟨trivial, trivial, trivial, loop21 W (by omega) hr, trivial⟩
  · intro b j' hb
    exact hj
  · intro i hi
    rw [hpin] at hi
    injection hi with hi
    exact ⟨hi, Nat.one_pos⟩
  · rw [show Try.f21.ntmps = 39 by kernel_rfl, whole21]
    intro q oa oc
    refine ⟨?_, .inr rfl, ?_⟩
    · rw [SB.val_sym]
      unfold c21
      rw [okRow_of hr, sameS_refl (by rfl), sameB_refl (by rfl), @decide_eq_true _ (Classical.propDecidable _) rfl, decide_eq_true (show 0 < gadd .i64 k 1 by omega), decide_eq_true (show gadd .i64 k 1 ≤ 9223372036854775807 by omega)]
      rfl
    · exact ⟨[(false, [.sl oa q.val.1.length oc])], .one (.sl oa q.val.1.length oc), by kernel_rfl, rfl, q, oa, oc, rfl, rfl, rfl⟩
end Go.Proofs.Ytdfplmkaaodblaa.dc
