/- The priorities of chapter 21: what the program's functions and the document's compute. -/
import Derived.Test.YtndciaoiinhdnaaRows
import Derived.Test.YtndciaoiinhdnaaLaw
import Derived.Test.YtndciaoiinhdnaaNum
namespace Go.Proofs.Ytndciaoiinhdnaa.pr
open Go Go.Sx
set_option maxRecDepth 100000

def rk (line lowest : Int) : Int := bits .and .i64 (gadd .i64 (gsub .i64 (bits .and .i64 line 7) (bits .and .i64 lowest 7)) 15) 7
def on (s i : Int) : Bool := bits .and .u8 (gshr .u8 s i) 1 == 1
def hiF (s m : Int) : Nat → Int → Int
  | 0, _ => -1
  | n + 1, k => bif on s (bits .and .i64 (gadd .i64 m k) 7) then bits .and .i64 (gadd .i64 m k) 7 else hiF s m n (k + 1)
def hi0 (s m : Int) : Int := hiF s m 8 1
def hi (s l : Int) : Int := hi0 s (bits .and .i64 l 7)

theorem m7 (x : Int) : bits .and .i64 x 7 = x % 8 := and_mask .i64 3 (by decide) x
theorem nn7 (x : Int) : decide (0 ≤ bits .and .i64 x 7) = true := by
  rw [m7]
  exact decide_eq_true (by omega)

theorem val50 (W : World) (a b : Int) : eval Try.prog W [] 50 [.one (.int .i64 (.sym a)), .one (.int .i64 (.sym b))] =
    some (.one (.int .i64 (.sym (bits .and .i64 (gadd .i64 (gsub .i64 (bits .and .i64 a 7) (bits .and .i64 b 7)) 7) 7)))) := by kernel_rfl
theorem rkp (a b : Int) : bits .and .i64 (gadd .i64 (gsub .i64 (bits .and .i64 a 7) (bits .and .i64 b 7)) 7) 7 = rk a b := by
  unfold rk gadd gsub
  simp only [m7, IntKind.wrap_i64]
  omega
def FRk : List TV → Option TV
  | [.one (.int .i64 a), .one (.int .i64 b)] => some (.one (.int .i64 (SI.map2 rk a b)))
  | _ => none
theorem rkR (W : World) (a b : SI) : eval Try.prog W [] 26 [.one (.int .i64 a), .one (.int .i64 b)] = some (.one (.int .i64 (SI.map2 rk a b))) := by
  cases a <;> cases b <;> kernel_rfl
def rk' (a b : Int) : Int := bits .and .i64 (gadd .i64 (gsub .i64 (bits .and .i64 a 7) (bits .and .i64 b 7)) 7) 7
theorem rkP' (W : World) (a b : SI) : eval Try.prog W [] 50 [.one (.int .i64 a), .one (.int .i64 b)] = some (.one (.int .i64 (SI.map2 rk' a b))) := by
  cases a <;> cases b <;> kernel_rfl
theorem rkP (W : World) (a b : SI) : eval Try.prog W [] 50 [.one (.int .i64 a), .one (.int .i64 b)] = some (.one (.int .i64 (SI.map2 rk a b))) := by
  have h : rk = rk' := funext fun a => funext fun b => (rkp a b).symm
  rw [h]
  exact rkP' W a b
theorem frk_ok (W : World) {g : Nat} (fn : ∃ fn, Try.prog.funcs[g]? = some fn ∧ (fn.name == "runtime.NumGoroutine") = false ∧ fn.body.isNone = false)
    (h : ∀ a b : SI, eval Try.prog W [] g [.one (.int .i64 a), .one (.int .i64 b)] = some (.one (.int .i64 (SI.map2 rk a b)))) : SpecOk W Try.prog g (specF FRk) := by
  refine specF_ok (G := []) (gok_nil W) fn fun args v hv => ?_
  unfold FRk at hv
  split at hv
  · simp only [Option.some.injEq] at hv
    subst hv
    exact ⟨rfl, rfl, by simp, _, h _ _, fun _ => rfl⟩
  · cases hv

/-! ### The line of a set with the highest priority -/
def GR : List (Nat × Sx.Spec) := [(50, specF FRk), (26, specF FRk)]
theorem gokR (W : World) : GOk W Try.prog GR :=
  gok_cons (frk_ok W ⟨Try.f50, Try.func50, by kernel_rfl, by kernel_rfl⟩ (rkP W)) (gok_cons (frk_ok W ⟨Try.f26, Try.func26, by kernel_rfl, by kernel_rfl⟩ (rkR W)) (gok_nil W))

theorem nfP (W : World) (x0 x1 : Int) : eval Try.prog W [] 47 [.one (.int .u8 (.sym x0)), .one (.int .i64 (.sym x1))] =
  bif
    bif
        bits BinOp.and IntKind.u8
            (gshr IntKind.u8 x0 (bits BinOp.and IntKind.i64 (gadd IntKind.i64 (bits BinOp.and IntKind.i64 x1 7) 1) 7))
            1 ==
          1 then
      decide (0 ≤ bits BinOp.and IntKind.i64 (gadd IntKind.i64 (bits BinOp.and IntKind.i64 x1 7) 1) 7)
    else
      bif
          bits BinOp.and IntKind.u8
              (gshr IntKind.u8 x0 (bits BinOp.and IntKind.i64 (gadd IntKind.i64 (bits BinOp.and IntKind.i64 x1 7) 2) 7))
              1 ==
            1 then
        decide (0 ≤ bits BinOp.and IntKind.i64 (gadd IntKind.i64 (bits BinOp.and IntKind.i64 x1 7) 1) 7) &&
          decide (0 ≤ bits BinOp.and IntKind.i64 (gadd IntKind.i64 (bits BinOp.and IntKind.i64 x1 7) 2) 7)
      else
        bif
            bits BinOp.and IntKind.u8
                (gshr IntKind.u8 x0
                  (bits BinOp.and IntKind.i64 (gadd IntKind.i64 (bits BinOp.and IntKind.i64 x1 7) 3) 7))
                1 ==
              1 then
          decide (0 ≤ bits BinOp.and IntKind.i64 (gadd IntKind.i64 (bits BinOp.and IntKind.i64 x1 7) 1) 7) &&
            (decide (0 ≤ bits BinOp.and IntKind.i64 (gadd IntKind.i64 (bits BinOp.and IntKind.i64 x1 7) 2) 7) &&
              decide (0 ≤ bits BinOp.and IntKind.i64 (gadd IntKind.i64 (bits BinOp.and IntKind.i64 x1 7) 3) 7))
        else
          bif
              bits BinOp.and IntKind.u8
                  (gshr IntKind.u8 x0
                    (bits BinOp.and IntKind.i64 (gadd IntKind.i64 (bits BinOp.and IntKind.i64 x1 7) 4) 7))
                  1 ==
                1 then
            decide (0 ≤ bits BinOp.and IntKind.i64 (gadd IntKind.i64 (bits BinOp.and IntKind.i64 x1 7) 1) 7) &&
              (decide (0 ≤ bits BinOp.and IntKind.i64 (gadd IntKind.i64 (bits BinOp.and IntKind.i64 x1 7) 2) 7) &&
                (decide (0 ≤ bits BinOp.and IntKind.i64 (gadd IntKind.i64 (bits BinOp.and IntKind.i64 x1 7) 3) 7) &&
                  decide (0 ≤ bits BinOp.and IntKind.i64 (gadd IntKind.i64 (bits BinOp.and IntKind.i64 x1 7) 4) 7)))
          else
            bif
                bits BinOp.and IntKind.u8
                    (gshr IntKind.u8 x0
                      (bits BinOp.and IntKind.i64 (gadd IntKind.i64 (bits BinOp.and IntKind.i64 x1 7) 5) 7))
                    1 ==
                  1 then
              decide (0 ≤ bits BinOp.and IntKind.i64 (gadd IntKind.i64 (bits BinOp.and IntKind.i64 x1 7) 1) 7) &&
                (decide (0 ≤ bits BinOp.and IntKind.i64 (gadd IntKind.i64 (bits BinOp.and IntKind.i64 x1 7) 2) 7) &&
                  (decide (0 ≤ bits BinOp.and IntKind.i64 (gadd IntKind.i64 (bits BinOp.and IntKind.i64 x1 7) 3) 7) &&
                    (decide (0 ≤ bits BinOp.and IntKind.i64 (gadd IntKind.i64 (bits BinOp.and IntKind.i64 x1 7) 4) 7) &&
                      decide
                        (0 ≤ bits BinOp.and IntKind.i64 (gadd IntKind.i64 (bits BinOp.and IntKind.i64 x1 7) 5) 7))))
            else
              bif
                  bits BinOp.and IntKind.u8
                      (gshr IntKind.u8 x0
                        (bits BinOp.and IntKind.i64 (gadd IntKind.i64 (bits BinOp.and IntKind.i64 x1 7) 6) 7))
                      1 ==
                    1 then
                decide (0 ≤ bits BinOp.and IntKind.i64 (gadd IntKind.i64 (bits BinOp.and IntKind.i64 x1 7) 1) 7) &&
                  (decide (0 ≤ bits BinOp.and IntKind.i64 (gadd IntKind.i64 (bits BinOp.and IntKind.i64 x1 7) 2) 7) &&
                    (decide (0 ≤ bits BinOp.and IntKind.i64 (gadd IntKind.i64 (bits BinOp.and IntKind.i64 x1 7) 3) 7) &&
                      (decide
                          (0 ≤ bits BinOp.and IntKind.i64 (gadd IntKind.i64 (bits BinOp.and IntKind.i64 x1 7) 4) 7) &&
                        (decide
                            (0 ≤ bits BinOp.and IntKind.i64 (gadd IntKind.i64 (bits BinOp.and IntKind.i64 x1 7) 5) 7) &&
                          decide
                            (0 ≤
                              bits BinOp.and IntKind.i64 (gadd IntKind.i64 (bits BinOp.and IntKind.i64 x1 7) 6) 7)))))
              else
                bif
                    bits BinOp.and IntKind.u8
                        (gshr IntKind.u8 x0
                          (bits BinOp.and IntKind.i64 (gadd IntKind.i64 (bits BinOp.and IntKind.i64 x1 7) 7) 7))
                        1 ==
                      1 then
                  decide (0 ≤ bits BinOp.and IntKind.i64 (gadd IntKind.i64 (bits BinOp.and IntKind.i64 x1 7) 1) 7) &&
                    (decide (0 ≤ bits BinOp.and IntKind.i64 (gadd IntKind.i64 (bits BinOp.and IntKind.i64 x1 7) 2) 7) &&
                      (decide
                          (0 ≤ bits BinOp.and IntKind.i64 (gadd IntKind.i64 (bits BinOp.and IntKind.i64 x1 7) 3) 7) &&
                        (decide
                            (0 ≤ bits BinOp.and IntKind.i64 (gadd IntKind.i64 (bits BinOp.and IntKind.i64 x1 7) 4) 7) &&
                          (decide
                              (0 ≤
                                bits BinOp.and IntKind.i64 (gadd IntKind.i64 (bits BinOp.and IntKind.i64 x1 7) 5) 7) &&
                            (decide
                                (0 ≤
                                  bits BinOp.and IntKind.i64 (gadd IntKind.i64 (bits BinOp.and IntKind.i64 x1 7) 6)
                                    7) &&
                              decide
                                (0 ≤
                                  bits BinOp.and IntKind.i64 (gadd IntKind.i64 (bits BinOp.and IntKind.i64 x1 7) 7)
                                    7))))))
                else
                  bif
                      bits BinOp.and IntKind.u8
                          (gshr IntKind.u8 x0
                            (bits BinOp.and IntKind.i64 (gadd IntKind.i64 (bits BinOp.and IntKind.i64 x1 7) 8) 7))
                          1 ==
                        1 then
                    decide (0 ≤ bits BinOp.and IntKind.i64 (gadd IntKind.i64 (bits BinOp.and IntKind.i64 x1 7) 1) 7) &&
                      (decide
                          (0 ≤ bits BinOp.and IntKind.i64 (gadd IntKind.i64 (bits BinOp.and IntKind.i64 x1 7) 2) 7) &&
                        (decide
                            (0 ≤ bits BinOp.and IntKind.i64 (gadd IntKind.i64 (bits BinOp.and IntKind.i64 x1 7) 3) 7) &&
                          (decide
                              (0 ≤
                                bits BinOp.and IntKind.i64 (gadd IntKind.i64 (bits BinOp.and IntKind.i64 x1 7) 4) 7) &&
                            (decide
                                (0 ≤
                                  bits BinOp.and IntKind.i64 (gadd IntKind.i64 (bits BinOp.and IntKind.i64 x1 7) 5)
                                    7) &&
                              (decide
                                  (0 ≤
                                    bits BinOp.and IntKind.i64 (gadd IntKind.i64 (bits BinOp.and IntKind.i64 x1 7) 6)
                                      7) &&
                                (decide
                                    (0 ≤
                                      bits BinOp.and IntKind.i64 (gadd IntKind.i64 (bits BinOp.and IntKind.i64 x1 7) 7)
                                        7) &&
                                  decide
                                    (0 ≤
                                      bits BinOp.and IntKind.i64 (gadd IntKind.i64 (bits BinOp.and IntKind.i64 x1 7) 8)
                                        7)))))))
                  else
                    decide (0 ≤ bits BinOp.and IntKind.i64 (gadd IntKind.i64 (bits BinOp.and IntKind.i64 x1 7) 1) 7) &&
                      (decide
                          (0 ≤ bits BinOp.and IntKind.i64 (gadd IntKind.i64 (bits BinOp.and IntKind.i64 x1 7) 2) 7) &&
                        (decide
                            (0 ≤ bits BinOp.and IntKind.i64 (gadd IntKind.i64 (bits BinOp.and IntKind.i64 x1 7) 3) 7) &&
                          (decide
                              (0 ≤
                                bits BinOp.and IntKind.i64 (gadd IntKind.i64 (bits BinOp.and IntKind.i64 x1 7) 4) 7) &&
                            (decide
                                (0 ≤
                                  bits BinOp.and IntKind.i64 (gadd IntKind.i64 (bits BinOp.and IntKind.i64 x1 7) 5)
                                    7) &&
                              (decide
                                  (0 ≤
                                    bits BinOp.and IntKind.i64 (gadd IntKind.i64 (bits BinOp.and IntKind.i64 x1 7) 6)
                                      7) &&
                                (decide
                                    (0 ≤
                                      bits BinOp.and IntKind.i64 (gadd IntKind.i64 (bits BinOp.and IntKind.i64 x1 7) 7)
                                        7) &&
                                  decide
                                    (0 ≤
                                      bits BinOp.and IntKind.i64 (gadd IntKind.i64 (bits BinOp.and IntKind.i64 x1 7) 8)
                                        7))))))) then
  some
    (TV.one
      (SV.int IntKind.i64
        (SI.sym
          (bif
              bits BinOp.and IntKind.u8
                  (gshr IntKind.u8 x0
                    (bits BinOp.and IntKind.i64 (gadd IntKind.i64 (bits BinOp.and IntKind.i64 x1 7) 1) 7))
                  1 ==
                1 then
            bits BinOp.and IntKind.i64 (gadd IntKind.i64 (bits BinOp.and IntKind.i64 x1 7) 1) 7
          else
            bif
                bits BinOp.and IntKind.u8
                    (gshr IntKind.u8 x0
                      (bits BinOp.and IntKind.i64 (gadd IntKind.i64 (bits BinOp.and IntKind.i64 x1 7) 2) 7))
                    1 ==
                  1 then
              bits BinOp.and IntKind.i64 (gadd IntKind.i64 (bits BinOp.and IntKind.i64 x1 7) 2) 7
            else
              bif
                  bits BinOp.and IntKind.u8
                      (gshr IntKind.u8 x0
                        (bits BinOp.and IntKind.i64 (gadd IntKind.i64 (bits BinOp.and IntKind.i64 x1 7) 3) 7))
                      1 ==
                    1 then
                bits BinOp.and IntKind.i64 (gadd IntKind.i64 (bits BinOp.and IntKind.i64 x1 7) 3) 7
              else
                bif
                    bits BinOp.and IntKind.u8
                        (gshr IntKind.u8 x0
                          (bits BinOp.and IntKind.i64 (gadd IntKind.i64 (bits BinOp.and IntKind.i64 x1 7) 4) 7))
                        1 ==
                      1 then
                  bits BinOp.and IntKind.i64 (gadd IntKind.i64 (bits BinOp.and IntKind.i64 x1 7) 4) 7
                else
                  bif
                      bits BinOp.and IntKind.u8
                          (gshr IntKind.u8 x0
                            (bits BinOp.and IntKind.i64 (gadd IntKind.i64 (bits BinOp.and IntKind.i64 x1 7) 5) 7))
                          1 ==
                        1 then
                    bits BinOp.and IntKind.i64 (gadd IntKind.i64 (bits BinOp.and IntKind.i64 x1 7) 5) 7
                  else
                    bif
                        bits BinOp.and IntKind.u8
                            (gshr IntKind.u8 x0
                              (bits BinOp.and IntKind.i64 (gadd IntKind.i64 (bits BinOp.and IntKind.i64 x1 7) 6) 7))
                            1 ==
                          1 then
                      bits BinOp.and IntKind.i64 (gadd IntKind.i64 (bits BinOp.and IntKind.i64 x1 7) 6) 7
                    else
                      bif
                          bits BinOp.and IntKind.u8
                              (gshr IntKind.u8 x0
                                (bits BinOp.and IntKind.i64 (gadd IntKind.i64 (bits BinOp.and IntKind.i64 x1 7) 7) 7))
                              1 ==
                            1 then
                        bits BinOp.and IntKind.i64 (gadd IntKind.i64 (bits BinOp.and IntKind.i64 x1 7) 7) 7
                      else
                        bif
                            bits BinOp.and IntKind.u8
                                (gshr IntKind.u8 x0
                                  (bits BinOp.and IntKind.i64 (gadd IntKind.i64 (bits BinOp.and IntKind.i64 x1 7) 8) 7))
                                1 ==
                              1 then
                          bits BinOp.and IntKind.i64 (gadd IntKind.i64 (bits BinOp.and IntKind.i64 x1 7) 8) 7
                        else -1))))
else none := by kernel_rfl
theorem hiP (W : World) (s l : Int) : eval Try.prog W [] 47 [.one (.int .u8 (.sym s)), .one (.int .i64 (.sym l))] = some (.one (.int .i64 (.sym (hi s l)))) := by
  rw [nfP]
  simp only [nn7, Bool.and_self, Bool.cond_self, cond_true]
  rfl

def st (s l b i : Int) : Int := bif (bif on s i then (bif decide (b < 0) then true else decide (rk i l < rk b l)) else false) then i else b
def hr (s l : Int) : Int := st s l (st s l (st s l (st s l (st s l (st s l (st s l (bif on s 0 then 0 else -1) 1) 2) 3) 4) 5) 6) 7
theorem nfR (W : World) (s l : Int) : eval Try.prog W GR 38 [.one (.int .u8 (.sym s)), .one (.int .i64 (.sym l))] = some (.one (.int .i64 (.sym (hr s l)))) := by kernel_rfl

/-! ### Facts of the line with the highest priority, by all bytes and rotations -/
theorem on_mod (s : Int) {i : Int} (h0 : 0 ≤ i) (h1 : i ≤ 7) : on s i = on (s % 256) i := by
  have h : i = 0 ∨ i = 1 ∨ i = 2 ∨ i = 3 ∨ i = 4 ∨ i = 5 ∨ i = 6 ∨ i = 7 := by omega
  have g : ∀ (k : Nat) (x : Int), k ≤ 7 → gshr .u8 x (k : Int) = x / 2 ^ k := by
    intro k x hk
    have e : gshr .u8 x (k : Int) = x.fdiv (2 ^ (min k 8)) := rfl
    rw [e, Nat.min_eq_left (by omega)]
    exact Int.fdiv_eq_ediv_of_nonneg _ (Int.le_of_lt (Int.pow_pos (by decide)))
  have f : ∀ k : Nat, k ≤ 7 → on s (k : Int) = on (s % 256) (k : Int) := by
    intro k hk
    unfold on
    rw [u8_and1, u8_and1, g k _ hk, g k _ hk]
    have hk' : k = 0 ∨ k = 1 ∨ k = 2 ∨ k = 3 ∨ k = 4 ∨ k = 5 ∨ k = 6 ∨ k = 7 := by omega
    have e : s / 2 ^ k % 2 = s % 256 / 2 ^ k % 2 := by
      rcases hk' with rfl | rfl | rfl | rfl | rfl | rfl | rfl | rfl <;> simp only [Int.reducePow] <;> omega
    rw [e]
  rcases h with rfl | rfl | rfl | rfl | rfl | rfl | rfl | rfl
  · exact f 0 (by decide)
  · exact f 1 (by decide)
  · exact f 2 (by decide)
  · exact f 3 (by decide)
  · exact f 4 (by decide)
  · exact f 5 (by decide)
  · exact f 6 (by decide)
  · exact f 7 (by decide)
theorem m7_range (x : Int) : 0 ≤ bits .and .i64 x 7 ∧ bits .and .i64 x 7 ≤ 7 := by rw [m7]; omega
theorem m7_idem (x : Int) : bits .and .i64 (bits .and .i64 x 7) 7 = bits .and .i64 x 7 := by simp only [m7]; omega
theorem rk_low (i l : Int) : rk i l = rk i (bits .and .i64 l 7) := by unfold rk; rw [m7_idem]
theorem rk_range (i l : Int) : 0 ≤ rk i l ∧ rk i l ≤ 7 := m7_range _
theorem hiF_mod (s m : Int) : ∀ (n : Nat) (k : Int), hiF s m n k = hiF (s % 256) m n k
  | 0, _ => rfl
  | n + 1, k => by
    have h := m7_range (gadd .i64 m k)
    simp only [hiF, ← on_mod s h.1 h.2, hiF_mod s m n]
theorem hr_mod (s l : Int) : hr s l = hr (s % 256) (bits .and .i64 l 7) := by
  have e : ∀ b i, 0 ≤ i → i ≤ 7 → st s l b i = st (s % 256) (bits .and .i64 l 7) b i := by
    intro b i h0 h1
    unfold st
    rw [on_mod s h0 h1, rk_low i l, rk_low b l]
  unfold hr
  rw [e _ 7 (by decide) (by decide), e _ 6 (by decide) (by decide), e _ 5 (by decide) (by decide), e _ 4 (by decide) (by decide), e _ 3 (by decide) (by decide), e _ 2 (by decide) (by decide), e _ 1 (by decide) (by decide), on_mod s (by decide) (by decide : (0 : Int) ≤ 7)]
def chk (s m : Int) : Bool :=
  let h := hi0 s m
  (hr s m == h) && ((h == -1) == (s == 0)) && decide (-1 ≤ h) && decide (h ≤ 7) && (decide (h < 0) || on s h) && ((List.range 8).all fun i => !on s (i : Int) || decide (rk h m ≤ rk (i : Int) m))
theorem chk_all : ((List.range 256).all fun s => (List.range 8).all fun m => chk (s : Int) (m : Int)) = true := by kernel_rfl
theorem chk_at {s m : Int} (h0 : 0 ≤ s) (h1 : s ≤ 255) (k0 : 0 ≤ m) (k1 : m ≤ 7) : chk s m = true := by
  have h2 := all_upto 256 (p := fun s => (List.range 8).all fun m => chk s (m : Int)) chk_all h0 (by omega)
  exact all_upto 8 (p := fun m => chk s m) h2 k0 (by omega)
theorem hr_hi (s l : Int) : hr s l = hi s l := by
  have hs : 0 ≤ s % 256 ∧ s % 256 ≤ 255 := by omega
  have hm := m7_range l
  have h := chk_at hs.1 hs.2 hm.1 hm.2
  simp only [chk, Bool.and_eq_true, beq_iff_eq] at h
  rw [hr_mod, h.1.1.1.1.1]
  unfold hi hi0
  rw [← hiF_mod]
theorem hiR (W : World) (s l : Int) : eval Try.prog W GR 38 [.one (.int .u8 (.sym s)), .one (.int .i64 (.sym l))] = some (.one (.int .i64 (.sym (hi s l)))) := by
  rw [nfR, hr_hi]
theorem hi_facts {s : Int} (h0 : 0 ≤ s) (h1 : s ≤ 255) (l : Int) :
    -1 ≤ hi s l ∧ hi s l ≤ 7 ∧ (hi s l < 0 → s = 0) ∧ (0 ≤ hi s l → s ≠ 0 ∧ on s (hi s l) = true) ∧ ∀ i, 0 ≤ i → i ≤ 7 → on s i = true → 0 ≤ hi s l ∧ rk (hi s l) l ≤ rk i l := by
  have hm := m7_range l
  have h := chk_at h0 h1 hm.1 hm.2
  have e : hi0 s (bits .and .i64 l 7) = hi s l := rfl
  simp only [chk, Bool.and_eq_true, Bool.or_eq_true, decide_eq_true_eq, e] at h
  obtain ⟨⟨⟨⟨⟨_, hz⟩, hl⟩, hu⟩, ho⟩, ha⟩ := h
  have hz' : hi s l = -1 ↔ s = 0 := by
    have := beq_iff_eq.1 hz
    constructor
    · intro hh
      rw [hh] at this
      simpa using this.symm
    · intro hh
      rw [hh] at this
      simpa [hh] using this
  refine ⟨hl, hu, fun h => hz'.1 (by omega), fun h => ⟨fun hh => ?_, ?_⟩, fun i hi0' hi1 hon => ?_⟩
  · have := hz'.2 hh; omega
  · rcases ho with ho | ho
    · omega
    · exact ho
  · have := all_upto 8 (p := fun i => !on s i || decide (rk (hi s l) (bits .and .i64 l 7) ≤ rk i (bits .and .i64 l 7))) ha hi0' (by omega)
    simp only [hon, Bool.not_true, Bool.false_or, decide_eq_true_eq, ← rk_low] at this
    refine ⟨?_, this⟩
    rcases Int.lt_or_le (hi s l) 0 with hn | hn
    · have hs0 := hz'.1 (by omega)
      subst hs0
      have : on 0 i = false := by
        have h : i = 0 ∨ i = 1 ∨ i = 2 ∨ i = 3 ∨ i = 4 ∨ i = 5 ∨ i = 6 ∨ i = 7 := by omega
        rcases h with rfl | rfl | rfl | rfl | rfl | rfl | rfl | rfl <;> rfl
      rw [this] at hon
      cases hon
    · exact hn
end Go.Proofs.Ytndciaoiinhdnaa.pr
