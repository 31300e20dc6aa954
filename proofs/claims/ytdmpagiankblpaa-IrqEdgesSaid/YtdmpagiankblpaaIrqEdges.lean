/- tstatelaw15.IrqEdges returns true for every input; no condition. -/
import Derived.Test.YtdmpagiankblpaaIrq
import Derived.Test.YtdmpagiankblpaaEngK
namespace Go.Proofs.Ytdmpagiankblpaa.irqEdges
open Go Go.Sx Go.RowKit Go.Proofs.Ytdmpagiankblpaa.mk
set_option maxRecDepth 100000
noncomputable def lb : Code := match Try.f7.body with
  | some (.seq _ (.seq _ (.seq _ (.seq _ (.seq _ (.seq (.block _ (.loop b)) _)))))) => b
  | _ => .skip
def cpuSh : List CSh := [.int .i64, .int .u8, .int .u8, .int .u8, .int .u8, .int .u8, .int .u8, .int .u8, .bool, .bool, .bool, .bool, .bool, .bool, .bool, .int .u16, .int .u16, .bool, .bool, .bool, .int .u8, .bool, .bool, .bool, .bool, .bool, .bool, .bool]
structure Pi where
  e : Env
  x : Int
  w7 : Bool
  wT : Bool
  ed : Bool
  tr : Bool
def SP (a : Option Addr) (n c : Nat) (p : Pi) : SL := [(0, .one (.sl a n c)), (3, .one (.ptr 0 0)), (4, .one (.ptr 1 0)), (5, .one (.bool (.sym p.w7))), (6, .one (.bool (.sym p.wT))), (7, .one (.bool (.sym p.ed))), (8, .one (.bool (.sym p.tr)))]
def BP (a : Option Addr) (n c : Nat) (p : Pi) : List (Nat × BI) := [(0, ⟨45, [.sl a n c, .int .i64 (.sym p.x)], true⟩), (1, ⟨28, cellsSV p.e 0 cpuSh, true⟩)]
def ks : List (Nat × Bool) := [(0, true), (3, true), (4, true), (5, true), (6, true), (7, true), (8, true)]
def bs : List (Nat × Bool) := [(0, true), (1, true)]


def shapes : List ASh := [.ints .i64]

abbrev T0 : HT := .plain
def nx (W : World) (a : Option Addr) (n : Nat) (p : Pi) : Pi :=
  ⟨⟨fun i => match i with
    | 0 => bif nxt W a n (gadd IntKind.i64 p.x 1) 4 == 0 then bif p.e.n 0 != 2 then p.e.n 0 else p.e.n 0 else bif p.e.n 0 != 2 then p.e.n 0 else p.e.n 0
    | 1 => bif nxt W a n (gadd IntKind.i64 p.x 1) 4 == 0 then bif p.e.n 0 != 2 then p.e.n 1 else p.e.n 1 else bif p.e.n 0 != 2 then p.e.n 1 else p.e.n 1
    | 2 => bif nxt W a n (gadd IntKind.i64 p.x 1) 4 == 0 then bif p.e.n 0 != 2 then p.e.n 2 else p.e.n 2 else bif p.e.n 0 != 2 then p.e.n 2 else p.e.n 2
    | 3 => bif nxt W a n (gadd IntKind.i64 p.x 1) 4 == 0 then bif p.e.n 0 != 2 then p.e.n 3 else p.e.n 3 else bif p.e.n 0 != 2 then p.e.n 3 else p.e.n 3
    | 4 => bif nxt W a n (gadd IntKind.i64 p.x 1) 4 == 0 then bif p.e.n 0 != 2 then p.e.n 4 else p.e.n 4 else bif p.e.n 0 != 2 then p.e.n 4 else p.e.n 4
    | 5 => bif nxt W a n (gadd IntKind.i64 p.x 1) 4 == 0 then bif p.e.n 0 != 2 then p.e.n 5 else p.e.n 5 else bif p.e.n 0 != 2 then p.e.n 5 else p.e.n 5
    | 6 => bif nxt W a n (gadd IntKind.i64 p.x 1) 4 == 0 then bif p.e.n 0 != 2 then p.e.n 6 else p.e.n 6 else bif p.e.n 0 != 2 then p.e.n 6 else p.e.n 6
    | 7 => bif nxt W a n (gadd IntKind.i64 p.x 1) 4 == 0 then bif p.e.n 0 != 2 then p.e.n 7 else p.e.n 7 else bif p.e.n 0 != 2 then p.e.n 7 else p.e.n 7
    | 15 => bif nxt W a n (gadd IntKind.i64 p.x 1) 4 == 0 then bif p.e.n 0 != 2 then p.e.n 15 else p.e.n 15 else bif p.e.n 0 != 2 then p.e.n 15 else p.e.n 15
    | 16 => bif nxt W a n (gadd IntKind.i64 p.x 1) 4 == 0 then bif p.e.n 0 != 2 then p.e.n 16 else p.e.n 16 else bif p.e.n 0 != 2 then p.e.n 16 else p.e.n 16
    | 20 => bif nxt W a n (gadd IntKind.i64 p.x 1) 4 == 0 then bif p.e.n 0 != 2 then p.e.n 20 else p.e.n 20 else bif p.e.n 0 != 2 then p.e.n 20 else p.e.n 20
    | _ => 0, fun i => match i with
    | 8 => bif nxt W a n (gadd IntKind.i64 p.x 1) 4 == 0 then bif p.e.n 0 != 2 then p.e.b 8 else p.e.b 8 else bif p.e.n 0 != 2 then p.e.b 8 else p.e.b 8
    | 9 => bif nxt W a n (gadd IntKind.i64 p.x 1) 4 == 0 then bif p.e.n 0 != 2 then p.e.b 9 else p.e.b 9 else bif p.e.n 0 != 2 then p.e.b 9 else p.e.b 9
    | 10 => bif nxt W a n (gadd IntKind.i64 p.x 1) 4 == 0 then bif p.e.n 0 != 2 then p.e.b 10 else p.e.b 10 else bif p.e.n 0 != 2 then p.e.b 10 else p.e.b 10
    | 11 => bif nxt W a n (gadd IntKind.i64 p.x 1) 4 == 0 then bif p.e.n 0 != 2 then p.e.b 11 else p.e.b 11 else bif p.e.n 0 != 2 then p.e.b 11 else p.e.b 11
    | 12 => bif nxt W a n (gadd IntKind.i64 p.x 1) 4 == 0 then bif p.e.n 0 != 2 then p.e.b 12 else p.e.b 12 else bif p.e.n 0 != 2 then p.e.b 12 else p.e.b 12
    | 13 => bif nxt W a n (gadd IntKind.i64 p.x 1) 4 == 0 then bif p.e.n 0 != 2 then p.e.b 13 else p.e.b 13 else bif p.e.n 0 != 2 then p.e.b 13 else p.e.b 13
    | 14 => bif nxt W a n (gadd IntKind.i64 p.x 1) 4 == 0 then bif p.e.n 0 != 2 then p.e.b 14 else p.e.b 14 else bif p.e.n 0 != 2 then p.e.b 14 else p.e.b 14
    | 17 => bif nxt W a n (gadd IntKind.i64 p.x 1) 4 == 0 then false else bif p.e.n 0 != 2 then p.e.b 17 else p.e.b 17
    | 18 => bif nxt W a n (gadd IntKind.i64 p.x 1) 4 == 0 then false else bif p.e.n 0 != 2 then p.e.b 18 else p.e.b 18
    | 19 => bif nxt W a n (gadd IntKind.i64 p.x 1) 4 == 0 then false else bif p.e.n 0 != 2 then p.e.b 19 else p.e.b 19
    | 21 => bif nxt W a n (gadd IntKind.i64 p.x 1) 4 == 0 then bif p.e.n 0 != 2 then p.e.b 21 else bif (gshr IntKind.i64 (nxt W a n p.x 512) 3).tmod 8 == 1 then bif p.e.b 21 then true else !p.e.b 23 else false else bif p.e.n 0 != 2 then p.e.b 21 else bif (gshr IntKind.i64 (nxt W a n p.x 512) 3).tmod 8 == 1 then bif p.e.b 21 then true else !p.e.b 23 else false
    | 22 => bif nxt W a n (gadd IntKind.i64 p.x 1) 4 == 0 then false else bif p.e.n 0 != 2 then p.e.b 22 else bif p.e.b 22 then true else bif bits BinOp.and IntKind.i64 (nxt W a n p.x 512) 64 != 0 then !p.e.b 24 else false
    | 23 => bif nxt W a n (gadd IntKind.i64 p.x 1) 4 == 0 then bif p.e.n 0 != 2 then p.e.b 23 else (gshr IntKind.i64 (nxt W a n p.x 512) 3).tmod 8 == 1 else bif p.e.n 0 != 2 then p.e.b 23 else (gshr IntKind.i64 (nxt W a n p.x 512) 3).tmod 8 == 1
    | 24 => bif nxt W a n (gadd IntKind.i64 p.x 1) 4 == 0 then bif p.e.n 0 != 2 then p.e.b 24 else bits BinOp.and IntKind.i64 (nxt W a n p.x 512) 64 != 0 else bif p.e.n 0 != 2 then p.e.b 24 else bits BinOp.and IntKind.i64 (nxt W a n p.x 512) 64 != 0
    | 25 => bif nxt W a n (gadd IntKind.i64 p.x 1) 4 == 0 then bif p.e.n 0 != 2 then p.e.b 25 else p.e.b 25 else bif p.e.n 0 != 2 then p.e.b 25 else p.e.b 25
    | 26 => bif nxt W a n (gadd IntKind.i64 p.x 1) 4 == 0 then bif p.e.n 0 != 2 then p.e.b 26 else p.e.b 26 else bif p.e.n 0 != 2 then p.e.b 26 else p.e.b 26
    | 27 => bif nxt W a n (gadd IntKind.i64 p.x 1) 4 == 0 then bif p.e.n 0 != 2 then p.e.b 27 else p.e.b 27 else bif p.e.n 0 != 2 then p.e.b 27 else p.e.b 27
    | _ => false, fun _ => none, fun _ => 0, fun _ => 0⟩, gadd IntKind.i64 (gadd IntKind.i64 p.x 1) 1, bits BinOp.and IntKind.i64 (nxt W a n p.x 512) 64 != 0, (gshr IntKind.i64 (nxt W a n p.x 512) 3).tmod 8 == 1, bif nxt W a n (gadd IntKind.i64 p.x 1) 4 == 0 then false else bif p.ed then true else bif bits BinOp.and IntKind.i64 (nxt W a n p.x 512) 64 != 0 then !p.w7 else false, bif (gshr IntKind.i64 (nxt W a n p.x 512) 3).tmod 8 == 1 then bif p.tr then true else !p.wT else false⟩
theorem body (W : World) (a : Option Addr) (n c : Nat) (p : Pi) : (runL Try.prog W (irq.G W) 100000 67 .plain lb (SP a n c p) ⟨[], BP a n c p, 2⟩).slim 2 ks bs [] [] =
    RL.br (decide (p.x < (n : Int))) (RL.br (bif !(bif p.e.n 0 != 2 then p.e.b 22 else bif p.e.b 22 then true else bif bits BinOp.and IntKind.i64 (nxt W a n p.x 512) 64 != 0 then !p.e.b 24 else false) == bif p.ed then true else bif bits BinOp.and IntKind.i64 (nxt W a n p.x 512) 64 != 0 then !p.w7 else false then true else !(bif p.e.n 0 != 2 then p.e.b 21 else bif (gshr IntKind.i64 (nxt W a n p.x 512) 3).tmod 8 == 1 then bif p.e.b 21 then true else !p.e.b 23 else false) == bif (gshr IntKind.i64 (nxt W a n p.x 512) 3).tmod 8 == 1 then bif p.tr then true else !p.wT else false) (.leaf .ret (.sym (okRow W a n c && (decide (0 ≤ p.x) && decide (p.x ≤ 4611686018427387904)))) [] []) (.leaf .nrm (.sym (okRow W a n c && (decide (0 ≤ p.x) && decide (p.x ≤ 4611686018427387904)) && (okRow W a n c && (decide (0 ≤ gadd IntKind.i64 p.x 1) && decide (gadd IntKind.i64 p.x 1 ≤ 4611686018427387904))))) (SP a n c (nx W a n p)) (BP a n c (nx W a n p)))) (.leaf (.exit 0) (.lit true) [] []) := by kernel_rfl
def Inv (n : Nat) (p : Pi) : Prop := n ≤ 200 ∧ p.e.n 0 = 2 ∧ p.e.b 22 = p.ed ∧ p.e.b 21 = p.tr ∧ p.e.b 24 = p.w7 ∧ p.e.b 23 = p.wT ∧ 0 ≤ p.x ∧ p.x ≤ n + 2
theorem vc_ok {W : World} {a : Option Addr} {n c : Nat} (hr : okRow W a n c = true) {x : Int} (h0 : 0 ≤ x) (h1 : x ≤ 4611686018427387903) :
    (okRow W a n c && (decide (0 ≤ x) && decide (x ≤ 4611686018427387904)) && (okRow W a n c && (decide (0 ≤ gadd IntKind.i64 x 1) && decide (gadd IntKind.i64 x 1 ≤ 4611686018427387904)))) = true := by
  have e : gadd .i64 x 1 = x + 1 := by unfold gadd; rw [IntKind.wrap_i64]; omega
  rw [e, hr, decide_eq_true h0, decide_eq_true (show x ≤ 4611686018427387904 by omega), decide_eq_true (show 0 ≤ x + 1 by omega), decide_eq_true (show x + 1 ≤ 4611686018427387904 by omega)]
  rfl
theorem step (W : World) (a : Option Addr) (n c : Nat) (hr : okRow W a n c = true) (p : Pi) (h : Inv n p) : ∃ e vc S B, ((runL Try.prog W (irq.G W) 100000 67 .plain lb (SP a n c p) ⟨[], BP a n c p, 2⟩).slim 2 ks bs [] []).get = some (e, vc, S, B) ∧ vc.val = true ∧
      ((e = .nrm ∧ ∃ p', Inv n p' ∧ (n + 2 - p'.x).toNat < (n + 2 - p.x).toNat ∧ S = SP a n c p' ∧ B = BP a n c p' ∧ ((.exit 0, [], []) : Ex × SL × List (Nat × BI)) = (.exit 0, [], [])) ∨ (e ≠ .nrm ∧ (∀ v, e ≠ .res v) ∧ ((.exit 0, [], []) : Ex × SL × List (Nat × BI)) = (e, S, B))) := by
  obtain ⟨h1, h2, h3, h4, h5, h6, h7, h8⟩ := h
  rw [body]
  by_cases hx : p.x < (n : Int)
  · have hb : (bif !(bif p.e.n 0 != 2 then p.e.b 22 else bif p.e.b 22 then true else bif bits BinOp.and IntKind.i64 (nxt W a n p.x 512) 64 != 0 then !p.e.b 24 else false) == bif p.ed then true else bif bits BinOp.and IntKind.i64 (nxt W a n p.x 512) 64 != 0 then !p.w7 else false then true else !(bif p.e.n 0 != 2 then p.e.b 21 else bif (gshr IntKind.i64 (nxt W a n p.x 512) 3).tmod 8 == 1 then bif p.e.b 21 then true else !p.e.b 23 else false) == bif (gshr IntKind.i64 (nxt W a n p.x 512) 3).tmod 8 == 1 then bif p.tr then true else !p.wT else false) = false := by
      rw [h2, h3, h4, h5, h6]
      simp only [bne_self_eq_false, cond_false, beq_self_eq_true, Bool.not_true]
    have hn : (p.e.n 0 != 2) = false := by rw [h2]; rfl
    have ex : (nx W a n p).x = p.x + 2 := by
      show gadd .i64 (gadd .i64 p.x 1) 1 = _
      unfold gadd
      simp only [IntKind.wrap_i64]
      omega
    refine ⟨.nrm, .sym (okRow W a n c && (decide (0 ≤ p.x) && decide (p.x ≤ 4611686018427387904)) && (okRow W a n c && (decide (0 ≤ gadd IntKind.i64 p.x 1) && decide (gadd IntKind.i64 p.x 1 ≤ 4611686018427387904)))), _, _, by simp only [RL.get, decide_eq_true hx, hb, cond_true, cond_false], vc_ok hr h7 (by omega), .inl ⟨rfl, nx W a n p, ⟨h1, ?_, ?_, ?_, ?_, ?_, by omega, by omega⟩, by omega, rfl, rfl, rfl⟩⟩
    · show (bif nxt W a n (gadd IntKind.i64 p.x 1) 4 == 0 then bif p.e.n 0 != 2 then p.e.n 0 else p.e.n 0 else bif p.e.n 0 != 2 then p.e.n 0 else p.e.n 0) = 2
      rw [Bool.cond_self, Bool.cond_self, h2]
    · show (bif nxt W a n (gadd IntKind.i64 p.x 1) 4 == 0 then false else bif p.e.n 0 != 2 then p.e.b 22 else bif p.e.b 22 then true else bif bits BinOp.and IntKind.i64 (nxt W a n p.x 512) 64 != 0 then !p.e.b 24 else false) = (bif nxt W a n (gadd IntKind.i64 p.x 1) 4 == 0 then false else bif p.ed then true else bif bits BinOp.and IntKind.i64 (nxt W a n p.x 512) 64 != 0 then !p.w7 else false)
      rw [hn, h3, h5]
      cases (nxt W a n (gadd IntKind.i64 p.x 1) 4 == 0) <;> rfl
    · show (bif nxt W a n (gadd IntKind.i64 p.x 1) 4 == 0 then bif p.e.n 0 != 2 then p.e.b 21 else bif (gshr IntKind.i64 (nxt W a n p.x 512) 3).tmod 8 == 1 then bif p.e.b 21 then true else !p.e.b 23 else false else bif p.e.n 0 != 2 then p.e.b 21 else bif (gshr IntKind.i64 (nxt W a n p.x 512) 3).tmod 8 == 1 then bif p.e.b 21 then true else !p.e.b 23 else false) = (bif (gshr IntKind.i64 (nxt W a n p.x 512) 3).tmod 8 == 1 then bif p.tr then true else !p.wT else false)
      rw [hn, h4, h6]
      cases (nxt W a n (gadd IntKind.i64 p.x 1) 4 == 0) <;> rfl
    · show (bif nxt W a n (gadd IntKind.i64 p.x 1) 4 == 0 then bif p.e.n 0 != 2 then p.e.b 24 else bits BinOp.and IntKind.i64 (nxt W a n p.x 512) 64 != 0 else bif p.e.n 0 != 2 then p.e.b 24 else bits BinOp.and IntKind.i64 (nxt W a n p.x 512) 64 != 0) = (bits BinOp.and IntKind.i64 (nxt W a n p.x 512) 64 != 0)
      rw [hn]
      cases (nxt W a n (gadd IntKind.i64 p.x 1) 4 == 0) <;> rfl
    · show (bif nxt W a n (gadd IntKind.i64 p.x 1) 4 == 0 then bif p.e.n 0 != 2 then p.e.b 23 else (gshr IntKind.i64 (nxt W a n p.x 512) 3).tmod 8 == 1 else bif p.e.n 0 != 2 then p.e.b 23 else (gshr IntKind.i64 (nxt W a n p.x 512) 3).tmod 8 == 1) = ((gshr IntKind.i64 (nxt W a n p.x 512) 3).tmod 8 == 1)
      rw [hn]
      cases (nxt W a n (gadd IntKind.i64 p.x 1) 4 == 0) <;> rfl
  · exact ⟨.exit 0, .lit true, [], [], by simp only [RL.get, decide_eq_false hx, cond_false], rfl, .inr ⟨by simp, by simp, rfl⟩⟩
def p0 : Pi := ⟨⟨fun i => match i with
  | 0 => 2
  | _ => 0, fun _ => false, fun _ => none, fun _ => 0, fun _ => 0⟩, 0, false, false, false, false⟩
noncomputable def hh (W : World) (a : Option Addr) (n c : Nat) : LH := .at_ (okRow W a n c && decide (n ≤ 200)) ks bs 2 (SP a n c p0) (BP a n c p0) (.exit 0) [] []
theorem loopOk (W : World) (a : Option Addr) (n c : Nat) : LoopOk W Try.prog 67 lb (hh W a n c) := by
  by_cases hr : okRow W a n c = true
  · refine loop_at (irq.gok W) (n := 100000) .plain trivial (Inv n) (fun p => (n + 2 - p.x).toNat) (SP a n c) (BP a n c) (fun _ => (.exit 0, [], [])) [] [] rfl rfl ?_ (step W a n c hr)
    intro hc
    rw [hr, Bool.true_and, decide_eq_true_eq] at hc
    exact ⟨p0, ⟨hc, rfl, rfl, rfl, rfl, rfl, Int.le_refl _, by show (0 : Int) ≤ n + 2; omega⟩, rfl, rfl, rfl⟩
  · intro w0 X f ac w S Bl vc e S' Bl' hF hv
    simp only [hh, LH.at_, Option.some.injEq, Prod.mk.injEq] at hF
    obtain ⟨rfl, _⟩ := hF
    rw [SB.val_sym, Bool.and_eq_true, Bool.and_eq_true] at hv
    exact absurd hv.1.1 hr
noncomputable def tr7 (W : World) (a : Option Addr) (n c : Nat) : HT := .seq .plain (.seq .plain (.seq .plain (.seq .plain (.seq .plain (.seq (.block (.loop (hh W a n c))) .plain)))))
noncomputable def body7 : Code := match Try.f7.body with
  | some c => c
  | none => .skip
theorem fhok (W : World) (a : Option Addr) (n c : Nat) : FHOk W Try.prog (tr7 W a n c) 7 := by
  intro fn cd h1 h2
  rw [show Try.prog.funcs[7]? = some Try.f7 from Try.func7] at h1
  simp only [Option.some.injEq] at h1
  subst h1
  rw [show Try.f7.body = some body7 by kernel_rfl] at h2
  simp only [Option.some.injEq] at h2
  subst h2
  have e : HOk W Try.prog Try.f7.ntmps (tr7 W a n c) body7 = (True ∧ True ∧ True ∧ True ∧ True ∧ (LoopOk W Try.prog 67 lb (hh W a n c) ∧ True)) := by kernel_rfl
  rw [e]
  exact ⟨trivial, trivial, trivial, trivial, trivial, loopOk W a n c, trivial⟩
theorem nf (W : World) (a : Option Addr) (n c : Nat) : evalL Try.prog W (irq.G W) (tr7 W a n c) 7 [.one (.sl a n c)] =
    bif decide ((n : Int) > 200) then some (.one (.bool (.lit true))) else
      bif ((okRow W a n c && decide (n ≤ 200)) && (sameS (SP a n c p0) (SP a n c p0) && sameB (BP a n c p0) (BP a n c p0))) then some (.one (.bool (.lit true))) else none := by kernel_rfl
theorem calls (W : World) (e : Env) (h : argsOk W e 0 shapes) : Calls Try.prog 7 ((argsTV e 0 shapes).map (TV.den fun _ => 0)).toArray W fun en W' => en = .returned (.bool true) ∧ Below W.heap.size W W' := by
  have hr : mk.okRow W (e.a 0) (e.len 0) (e.cap 0) = true := mk.okRow_of h.1
  have key : evalL Try.prog W (irq.G W) (tr7 W (e.a 0) (e.len 0) (e.cap 0)) 7 [.one (.sl (e.a 0) (e.len 0) (e.cap 0))] = some (.one (.bool (.lit true))) := by
    rw [nf, sameS_refl (by rfl), sameB_refl (by rfl), hr]
    by_cases hn : ((e.len 0 : Nat) : Int) > 200
    · rw [decide_eq_true hn]; rfl
    · rw [decide_eq_false hn, decide_eq_true (show e.len 0 ≤ 200 by omega)]; rfl
  refine (calls_of_evalL (irq.gok W) (fhok W (e.a 0) (e.len 0) (e.cap 0)) key W (.refl W)).mono fun en w' ⟨⟨f, hf⟩, hbe⟩ => ⟨?_, hbe⟩
  rw [hf]
  rfl

theorem own : ownKnob Try.prog.godebug = none := by kernel_rfl

theorem lifted (os : Os) (started : os.Started) (H : Type) (enc : TypeId × Value → H) :
    ReturnsInHanded {} Try.checked os 7 .any (Rows.irqEdgesSpec.pre6 enc Try.prog Try.f7 Rows.irqEdgesRow.domain false) (Rows.irqEdgesSpec.post enc Try.prog Try.f7 false true false false) :=
  law_step (C := Try.checked) 1 own started (by kernel_rfl) Try.func7 (by kernel_rfl) (by kernel_rfl) rfl
    (fun ds hd => by
      match ds, hd with
      | [d0], _ => rfl)
    (ChangeSpec.witness6 (enc := enc) (C := Try.checked) false ⟨#[], #[.slice none 0 0], []⟩ 8 (by kernel_rfl) (by kernel_rfl) (by kernel_rfl) (by kernel_rfl))
    (fun W base args hv hl _ _ htr => shape_walk (P := Try.prog) shapes (by kernel_rfl) calls W base args hv hl htr)

theorem over : Rows.irqEdgesRow.holds Try.pinned (OpenSpec.ofChange Rows.irqEdgesSpec) :=
  OpenClaim.holds_of_wide 7 Try.f7 rfl rfl rfl rfl rfl rfl rfl ⟨rfl, rfl, rfl, rfl, rfl⟩ rfl rfl rfl rfl rfl (by kernel_rfl) Try.func7 (by kernel_rfl)
    (of_decide_eq_true (by kernel_rfl)) (by unfold Func.isWrapper; first | (rw [if_pos (by decide +kernel)]; kernel_rfl) | (rw [if_neg (by decide +kernel)]; exact ⟨rfl, rfl⟩))
    (fun os started H enc _ => lifted os started H enc)

theorem proved : Rows.IrqEdgesSaid := over
#print axioms proved
end Go.Proofs.Ytdmpagiankblpaa.irqEdges
