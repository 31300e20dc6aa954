/- slices.Backward over bytes, and listing.hexadecimal: what they hand back. -/
import Derived.RangeFuncBox
import Derived.RangeFuncNested
import Derived.RangeFuncLeaves
import Derived.Shelf.Abstract
import Derived.WalkKit
import Derived.OwnWalkIn
import Derived.TacticsInMore
import Derived.LoopNIn
import Derived.LoopIn
import Derived.Sort.EveryDepth
import Derived.BigRegionIn
import Derived.Laws.BytesArg
import Derived.Test.YtdglgiaegjkinaaDoorProg
import Derived.Test.YtdglgiaegjkinaaDoorGapE
import Derived.Test.YtdglgiaegjkinaaDoorDrawIn
import Derived.Test.YtdglgiaegjkinaaDoorNum
namespace Go.Proofs.YtdglgiaegjkinaaDoor
open Go Go.Proofs Go.RowKit Go.Shelf
attribute [local go_sem] Oper.semAt_some
def upto {α : Type} (f : Nat → α) (k : Nat) : List α := (List.range k).map f
theorem upto_succ {α : Type} (f : Nat → α) (k : Nat) : upto f (k + 1) = upto f k ++ [f k] := by simp [upto, List.range_succ]
theorem upto_length {α : Type} (f : Nat → α) (k : Nat) : (upto f k).length = k := by simp [upto]
/-- An index and a byte. -/
abbrev BX := { x : Nat × Int // 0 ≤ x.2 ∧ x.2 ≤ 255 }
abbrev Byt (zs : List Int) : Prop := ∀ j : Nat, 0 ≤ zs[j]?.getD 0 ∧ zs[j]?.getD 0 ≤ 255
/-- What comes in round k. -/
def back (zs : List Int) (hu : Byt zs) (len k : Nat) : BX := ⟨(len - 1 - k, zs[len - 1 - k]?.getD 0), hu _⟩
/-- What a round keeps: all below n₀, the slice's box. -/
def Kept (n₀ Bs : Nat) (A B : World) : Prop := Below n₀ A B ∧ B.heap[Bs]? = A.heap[Bs]?
theorem kept_t {n₀ Bs : Nat} {A B C : World} (h : Kept n₀ Bs A B) (k : Kept n₀ Bs B C) : Kept n₀ Bs A C := ⟨h.1.trans k.1, k.2.trans h.2⟩
theorem kept_b {n₀ Bs : Nat} {w : World} (hn : n₀ ≤ w.heap.size) (hB : Bs < w.heap.size) (W : World) (l : Nat) (o o' : Obj) (hl : w.heap.size ≤ l) (h : W.heap[l]? = some o) (hc : o.isCells = false) (hw : o.isWalk = false) : Kept n₀ Bs W (W.putObj l o') :=
  ⟨belowK_b hn W l o o' hl h hc hw, (belowK_b (n₀ := Bs + 1) (by omega) W l o o' hl h hc hw).block Bs (Nat.lt_succ_self _)⟩
set_option maxRecDepth 100000 in
set_option maxHeartbeats 2000000 in
/-- The closure of slices.Backward. -/
theorem back1_in (F : Fence) (n : Nat) (h8 : F.fn 67) (hro : F.round = none) (hn : 1 ≤ n) (l Bs n₀ b off len cap : Nat) (zs : List Int) (hu : Byt zs) (hreach : len ≤ 1000000) (hb : b < n₀) (J Jx : List BX → World → Prop)
    (hY : ∀ pre x W, J pre W → pre.length < len → YieldAt F (n - 1) Tryd.prog l #[.int .i64 (x.1.1 : Int), .int .u8 x.1.2] W fun e W' =>
      (e = .returned (.bool true) ∧ J (pre ++ [x]) W' ∧ Kept n₀ Bs W W') ∨ (e = .returned (.bool false) ∧ Jx (pre ++ [x]) W'))
    (W : World) (hBs : W.cell? ⟨Bs, 0, none⟩ = some (.slice (some ⟨b, off, none⟩) len cap)) (hc : ∀ j, j < len → W.cell? ⟨b, off + j, none⟩ = some (.int .u8 (zs[j]?.getD 0))) (h0 : J [] W) :
    CallsIn F n Tryd.prog 67 #[.func (.yield l) #[] #[], .pointer (some ⟨Bs, 0, none⟩)] W fun e W' => (∃ v, e = .returned v) ∧
      ((∃ ys, ys = upto (back zs hu len) len ∧ J ys W') ∨ (∃ pre, (∃ k, k ≤ len ∧ pre = upto (back zs hu len) k) ∧ Jx pre W')) := by
  refine callsIn_of_wp Tryd.func67 rfl h8 ?_ hro
  simp only [Tryd.ntmps67, List.size_toArray, List.length_cons, List.length_nil, Nat.reduceAdd, Nat.reduceSub, Array.replicate_succ, Array.replicate_zero, List.push_toArray, List.append_toArray, List.nil_append, List.cons_append]
  gi_wp2
  gi_loopw [3] (fun i wr => ∃ k : Nat, k ≤ len ∧ i = .int .i64 ((len : Int) - 1 - k) ∧ J (upto (back zs hu len) k) wr ∧ Kept n₀ Bs W wr)
    (fun i _ => (intOf i + 1).toNat)
  case atStart => exact ⟨0, Nat.zero_le _, by simp, h0, Below.refl _ _, rfl⟩
  case round =>
    obtain ⟨k, hk, rfl, hJs, hnx⟩ := hrel
    have hcx : ∀ j, j < len → wr.cell? ⟨b, off + j, none⟩ = some (.int .u8 (zs[j]?.getD 0)) := fun j h => (hnx.1.cell (p := ⟨b, off + j, none⟩) hb).trans (hc j h)
    have hBx : wr.cell? ⟨Bs, 0, none⟩ = some (.slice (some ⟨b, off, none⟩) len cap) := (World.cell?_of_block hnx.2).trans hBs
    by_cases hlt : k < len
    · obtain ⟨fn, tmps, assign, body, hy, hR⟩ := hY _ (back zs hu len k) wr hJs (by rw [upto_length]; exact hlt)
      unfold back at hy
      dsimp only at hy
      have hcx' := hcx (len - 1 - k) (by omega)
      have e1 : (len : Int) - 1 - (k : Int) = ((len - 1 - k : Nat) : Int) := by omega
      rw [e1]
      gi_wp2
      refine hR.mono ?_
      rintro e W3 (⟨rfl, hJ3, hk3⟩ | ⟨rfl, hJx3⟩)
      · gi_wp2
        go_roundw
        case rel => exact ⟨k + 1, by omega, by simp; omega, by rw [upto_succ]; exact hJ3, kept_t hnx hk3⟩
        case measure => simp [intOf]
      · gi_wp2
        refine bodyPost_ret (results_none rfl _ _ _) rfl ?_
        exact ⟨⟨_, rfl⟩, .inr ⟨_, ⟨k + 1, by omega, (upto_succ _ _).symm⟩, hJx3⟩⟩
    · obtain rfl : k = len := by omega
      have e1 : (k : Int) - 1 - (k : Int) = -1 := by omega
      rw [e1]
      gi_wp2
      go_end0
      exact ⟨⟨_, rfl⟩, .inl ⟨_, rfl, hJs⟩⟩
set_option maxRecDepth 100000 in
set_option maxHeartbeats 1000000 in
/-- slices.Backward: the slice is boxed; the function value holds the box. -/
theorem back_in (F : Fence) (n : Nat) (h6 : F.fn 55) (hro : F.round = none) (a : Option Addr) (len cap : Nat) (w : World) :
    CallsIn F n Tryd.prog 55 #[.slice a len cap] w fun e w' => e = .returned (.func (.func 67) #[] #[.pointer (some ⟨w.heap.size, 0, none⟩)]) ∧ w' = w.alloc (.cells #[.slice a len cap] 22) := by
  refine callsIn_of_wp Tryd.func55 rfl h6 ?_ hro
  simp only [Tryd.ntmps55, List.size_toArray, List.length_cons, List.length_nil, Nat.reduceAdd, Nat.reduceSub, Array.replicate_succ, Array.replicate_zero, List.push_toArray, List.append_toArray, List.nil_append, List.cons_append]
  gi_wp2
  go_ret
  exact ⟨rfl, rfl⟩
theorem back_stops (F : Fence) (n : Nat) (h8 : F.fn 67) (hro : F.round = none) (hn : 1 ≤ n) (Bs n₀ b off len cap : Nat) (zs : List Int) (hu : Byt zs) (hreach : len ≤ 1000000) (w : World) (hBs : Bs < w.heap.size) (hb : b < n₀) (hn₀ : n₀ ≤ w.heap.size)
    (hc : w.cell? ⟨Bs, 0, none⟩ = some (.slice (some ⟨b, off, none⟩) len cap)) (hz : ∀ j : Nat, j < len → w.cell? ⟨b, off + j, none⟩ = some (.int .u8 (zs[j]?.getD 0))) :
    SeqStopsK F n Tryd.prog 67 #[.pointer (some ⟨Bs, 0, none⟩)] (fun x : BX => #[Value.int .i64 (x.1.1 : Int), Value.int .u8 x.1.2]) (Kept n₀ Bs) (fun ys => ys = upto (back zs hu len) len)
      (fun pre => ∃ k, k ≤ len ∧ pre = upto (back zs hu len) k) len w := fun l J Jx W hW _ _ hY h0 =>
  back1_in F n h8 hro hn l Bs n₀ b off len cap zs hu hreach hb J Jx hY W ((hW.cell (p := ⟨Bs, 0, none⟩) hBs).trans hc) (fun j hj => (hW.cell (p := ⟨b, off + j, none⟩) (Nat.lt_of_lt_of_le hb hn₀)).trans (hz j hj)) h0
noncomputable def ops37 : Array Oper := match Tryd.f37.body with
  | some (.seq _ (.seq _ (.seq (.seq _ (.block _ (.rangeFunc _ _ _ (.block _ (.region _ ops _))))) _))) => ops
  | _ => #[]
def W0 (w : World) : World := { w with heap := #[] }
def S37 (x : Int) : Sx.SL := [(3, .one (.ptr 0 0)), (5, .one (.int .u8 (.sym x)))]
def m37 (s : ByteArray) : Sx.Mem := ⟨[], [(0, ⟨9, [.str s], true⟩)], 1⟩
def digs : ByteArray := { data := #[48, 49, 50, 51, 52, 53, 54, 55, 56, 57, 97, 98, 99, 100, 101, 102] }
noncomputable def R37 (w : World) (x : Int) (s : ByteArray) : Sx.R := Sx.run Tryd.prog (W0 w) [] 100000 (.dops ops37 ops37.toList 0 [] []) ⟨21, S37 x, m37 s⟩ [] (m37 s).fresh
/-- Two letters. -/
def two (x : Int) : ByteArray := Sx.strB [Sx.byteAt digs (Sx.gshr .u8 x 4), Sx.byteAt digs (bits .and .u8 x 15)]
theorem run37 (w : World) (x : Int) (s : ByteArray) : ((R37 w x s).over (S37 x) (m37 s)).slim 1 [] [(0, true)] [] [] = .leaf .nrm (.sym (Sx.inStr digs (Sx.gshr .u8 x 4) && (Sx.inStr digs (bits .and .u8 x 15) && decide (((s.size + (two x).size : Nat) : Int) ≤ 9223372036854775807)))) [] [(0, ⟨9, [.str (Sx.catB s (two x))], true⟩)] := by kernel_rfl
theorem catB_size (a b : ByteArray) : (Sx.catB a b).size = a.size + b.size := by rw [← Sx.catB_eq, ByteArray.size_append]
theorem two_size (x : Int) : (two x).size = 2 := by simp [two, Sx.strB, ByteArray.size]
def hexS (pre : List BX) : ByteArray := pre.foldl (fun s x => Sx.catB s (two x.1.2)) { data := #[48, 120] }
theorem hexS_snoc (pre : List BX) (x : BX) : hexS (pre ++ [x]) = Sx.catB (hexS pre) (two x.1.2) := by simp [hexS]
theorem hexS_size (pre : List BX) : (hexS pre).size = 2 + 2 * pre.length := by
  have h : ∀ (l : List BX) (s : ByteArray), (l.foldl (fun s x => Sx.catB s (two x.1.2)) s).size = s.size + 2 * l.length := by
    intro l
    induction l with
    | nil => intro s; simp
    | cons x r ih =>
      intro s
      rw [List.foldl_cons, ih, catB_size, two_size, List.length_cons]
      omega
  exact h pre _
theorem digits_in {x : Int} (h : 0 ≤ x ∧ x ≤ 255) : Sx.inStr digs (Sx.gshr .u8 x 4) = true ∧ Sx.inStr digs (bits .and .u8 x 15) = true := by
  have h1 := Sx.all_u8 (p := fun x => Sx.inStr digs (Sx.gshr .u8 x 4) && Sx.inStr digs (bits .and .u8 x 15)) (by kernel_rfl) h
  rw [Bool.and_eq_true] at h1
  exact h1
theorem plain37 : ∀ o ∈ ops37.toList, Sx.plainO o = true := by
  have h : (ops37.toList.all Sx.plainO) = true := by kernel_rfl
  exact fun o ho => List.all_eq_true.1 h o ho
theorem pick_one {m : Sx.Mem} {e : TypeId} {v : Sx.SV} {rw : Bool} (h : Sx.pickB m [(0, true)] = some [(0, ⟨e, [v], rw⟩)]) : True ∧ ∃ i, Sx.look m.blks 0 = some i ∧ i.elem = e ∧ i.init.length = 1 ∧ ∃ u, m.get 0 0 = some u ∧ u.soft = v := by
  refine ⟨trivial, ?_⟩
  simp only [Sx.pickB] at h
  split at h <;> try contradiction
  rename_i i hi
  split at h <;> try contradiction
  rename_i l hl
  simp only [Option.some.injEq, List.cons.injEq, Prod.mk.injEq, Sx.BI.mk.injEq, true_and, and_true] at h
  obtain ⟨h1, h2, _⟩ := h
  obtain ⟨h3, h4⟩ := Sx.rangeC_get hl
  have h5 : l.length = 1 := by
    have := congrArg List.length h2
    simpa [Sx.softL] using this
  match l, h5 with
  | [u], _ =>
    simp only [Sx.softL, List.map_cons, List.map_nil, List.cons.injEq, and_true] at h2
    exact ⟨i, hi, h1, by simpa using h3.symm, u, h4 0 u rfl, h2⟩
theorem over_slim {r : Sx.R} {S : Sx.SL} {m : Sx.Mem} {N : Nat} {ks bs ke be : List (Nat × Bool)} {vc : Sx.SB} {S1 : Sx.SL} {B : List (Nat × Sx.BI)} (h : ((r.over S m).slim N ks bs ke be).get = some (.nrm, vc, S1, B)) : ∃ s2 m2, r.get = some (.nrm, vc, s2, m2) ∧ Sx.pickB (m2.on m) bs = some B := by
  obtain ⟨s1, m1, hg, _, hpick⟩ := Sx.slim_get h
  rw [Sx.R.get_over] at hg
  split at hg <;> try contradiction
  rename_i e2 v2 s2 m2 hg2
  simp only [Option.some.injEq, Prod.mk.injEq] at hg
  obtain ⟨rfl, rfl, rfl, rfl⟩ := hg
  exact ⟨s2, m2, hg2, hpick⟩
/-- What holds behind the region, as a word. -/
structure P37 (w : World) (x : Int) (s : ByteArray) (X : Nat → Prop) (f : Nat → Nat) (W' : World) (e : Exit) (a : Act) (w' : World) : Prop where
  h : ∃ ex v s3 m3 f3, (R37 w x s).get = some (ex, v, s3, m3) ∧ Sx.exOf ex = some e ∧ Sx.Rel (W0 w) W' X 21 (s3 ++ S37 x) (m3.on (m37 s)) f3 a w' ∧ Sx.Ext 1 f f3 ∧ 1 ≤ m3.next
set_option maxRecDepth 100000 in
theorem draw37 {F : Fence} {n : Nat} {w : World} {x : Int} {s : ByteArray} {X : Nat → Prop} {f : Nat → Nat} {a : Act} {W : World} (hg : (R37 w x s).good) (hrel : Sx.Rel (W0 w) W X 21 (S37 x) (m37 s) f a W) {Q : Exit → Act → World → Prop}
    (hQ : ∀ e a' w', P37 w x s X f W e a' w' → Q e a' w') : (Code.region 4 ops37 true).wpIn F n Tryd.prog Q a W := by
  have key := Sx.draw_any (Sx.gok_nil (W0 w)) 100000 (fun k _ => Sx.sound (Sx.gok_nil (W0 w)) (fun n hS => Sx.draw_sound (Sx.gok_nil (W0 w)) n hS) k) (ops := ops37) (by kernel_rfl) hg hrel
  refine wpIn_region_any (by kernel_rfl) (Sx.wpAny_in plain37 (fun e a' W' hp => hQ _ _ _ ⟨hp⟩) (fun hl => ?_) _ _ _ _ key)
  obtain ⟨a', w', ex, v, s3, m3, f3, h1, h2, _⟩ := hl
  cases ex <;> simp [Sx.exOf] at h2
set_option maxRecDepth 100000 in
/-- One round of the loop: two letters more in the box. -/
theorem body37 {F : Fence} {n : Nat} {x : Int} (hx : 0 ≤ x ∧ x ≤ 255) {s : ByteArray} (hs : s.size ≤ 9000000) {B : Nat} {W : World} {a : Act} (hsz : a.tmps.size = 21) (hd : a.defers = []) (h3 : a.tmps.getD 3 undef = .pointer (some ⟨B, 0, none⟩)) (h5 : a.tmps.getD 5 undef = .int .u8 x)
    (hB : W.heap[B]? = some (.cells #[.string s] 9 (0, 0))) {Q : Exit → Act → World → Prop}
    (hQ : ∀ a' W', W.heap.size ≤ W'.heap.size → W'.os = W.os → W'.tape = W.tape → W'.output = W.output → (∀ i, i < W.heap.size → i ≠ B → W'.heap[i]? = W.heap[i]?) → W'.heap[B]? = some (.cells #[.string (Sx.catB s (two x))] 9 (0, 0)) → Q .normal a' W') :
    (Code.region 4 ops37 true).wpIn F n Tryd.prog Q a W := by
  have hlt : B < W.heap.size := (Array.getElem?_eq_some_iff.1 hB).1
  have hfree : Sx.Free (W0 W) B := Sx.Free.of_size (Nat.zero_le _)
  have hold : Sx.Old (W0 W) W := ⟨fun {q v} hc => by
    have := Sx.cell_lt hc
    exact absurd this (by simp [W0])⟩
  have hget : ∀ b o v, (m37 s).get b o = some v → b = 0 ∧ o = 0 ∧ v = .str s := by
    intro b o v hv
    simp only [m37, Sx.Mem.get, Sx.findC, Sx.look_cons, Sx.look] at hv
    by_cases hb : 0 = b
    · simp only [hb, if_true] at hv
      rcases o with _ | o
      · simp at hv; exact ⟨hb.symm, rfl, hv.symm⟩
      · simp at hv
    · simp [hb] at hv
  have hblk : ∀ b j, Sx.look (m37 s).blks b = some j → b = 0 ∧ j = ⟨9, [.str s], true⟩ := by
    intro b j hj
    simp only [m37, Sx.look_cons, Sx.look] at hj
    split at hj
    · rename_i hb
      simp only [Option.some.injEq] at hj
      exact ⟨hb.symm, hj.symm⟩
    · cases hj
  have hm : Sx.MOk W (fun i => i = B) (fun _ => B) (m37 s) W := by
    refine ⟨?_, ?_, ?_, ?_, ?_, ?_⟩
    · intro b j hj
      obtain ⟨_, rfl⟩ := hblk b j hj
      exact ⟨_, hB, rfl⟩
    · intro b o v hv
      obtain ⟨_, rfl, rfl⟩ := hget b o v hv
      rw [Sx.cell_of_blk hB]
      rfl
    · intro b o v hv
      obtain ⟨rfl, _⟩ := hget b o v hv
      exact ⟨_, rfl⟩
    · intro b c i j hi hj _
      rw [(hblk b i hi).1, (hblk c j hj).1]
    · intro _ _ _ _
      exact .inr rfl
    · intro b j hj
      rw [(hblk b j hj).1]
      exact Nat.zero_lt_one
  have hrel : Sx.Rel (W0 W) W (fun i => i = B) 21 (S37 x) (m37 s) (fun _ => B) a W := by
    refine ⟨hsz, hd, ?_, hm, rfl, rfl, rfl, Nat.le_refl _, fun _ _ _ => rfl, hold, fun i hi => hi ▸ hfree⟩
    intro t v hv _
    unfold S37 at hv
    rw [Sx.look_cons, Sx.look_cons] at hv
    by_cases h3' : 3 = t
    · rw [if_pos h3'] at hv
      simp only [Option.some.injEq] at hv
      rw [← h3', ← hv, h3]
      rfl
    · rw [if_neg h3'] at hv
      by_cases h5' : 5 = t
      · rw [if_pos h5'] at hv
        simp only [Option.some.injEq] at hv
        rw [← h5', ← hv, h5]
        rfl
      · rw [if_neg h5'] at hv
        cases hv
  have hdig := digits_in hx
  have hvc : (Sx.SB.sym (Sx.inStr digs (Sx.gshr .u8 x 4) && (Sx.inStr digs (bits .and .u8 x 15) && decide (((s.size + (two x).size : Nat) : Int) ≤ 9223372036854775807)))).val = true := by
    rw [Sx.SB.val_sym, hdig.1, hdig.2, decide_eq_true (by rw [two_size]; omega)]
    rfl
  have hsl : (((R37 W x s).over (S37 x) (m37 s)).slim 1 [] [(0, true)] [] []).get = some (.nrm, .sym (Sx.inStr digs (Sx.gshr .u8 x 4) && (Sx.inStr digs (bits .and .u8 x 15) && decide (((s.size + (two x).size : Nat) : Int) ≤ 9223372036854775807))), [], [(0, ⟨9, [.str (Sx.catB s (two x))], true⟩)]) := by
    rw [run37]
    rfl
  obtain ⟨s2, m2, hg2, hpick⟩ := over_slim hsl
  have hgood : (R37 W x s).good := ⟨_, _, _, _, hg2, hvc⟩
  refine draw37 hgood hrel (fun e a' W' hp => ?_)
  obtain ⟨ex, v, s3, m3, f3, h1, h2, h4, h6, _⟩ := hp.h
  rw [hg2] at h1
  simp only [Option.some.injEq, Prod.mk.injEq] at h1
  obtain ⟨rfl, rfl, rfl, rfl⟩ := h1
  simp only [Sx.exOf, Option.some.injEq] at h2
  subst h2
  have hf0 : f3 0 = B := h6 0 Nat.zero_lt_one
  obtain ⟨_, i1, h7, h81, h82, u, h83, h84⟩ := pick_one hpick
  obtain ⟨arr, h9, h10⟩ := h4.mem.blk 0 i1 h7
  have h11 := h4.mem.cell 0 0 u h83
  rw [hf0] at h9 h11
  rw [h81] at h9
  rw [h82] at h10
  rw [Sx.cell_of_blk h9, ← Sx.SV.soft_den f3 u, h84] at h11
  refine hQ _ _ h4.fr.size h4.fr.os h4.fr.tape h4.fr.output (fun i hi hne => h4.fr.same i hi hne) ?_
  rw [h9]
  have : arr = #[.string (Sx.catB s (two x))] := by
    apply Array.ext
    · simpa using h10
    · intro i h12 h13
      have : i = 0 := by simpa using h13
      subst this
      rw [Array.getElem?_eq_getElem (by omega)] at h11
      have h14 : arr[0] = Sx.SV.den f3 (.str (Sx.catB s (two x))) := by simpa using h11
      exact h14
  rw [this]
set_option maxRecDepth 100000 in
set_option maxHeartbeats 2000000 in
/-- listing.hexadecimal. -/
theorem hex_in (F : Fence) (n : Nat) (h4 : F.fn 37) (h6 : F.fn 55) (h8 : F.fn 67) (hro : F.round = none) (hn : 3 ≤ n) (b off len cap : Nat) (zs : List Int) (hu : Byt zs) (hreach : len ≤ 1000000) (w : World) (hb : b < w.heap.size)
    (hz : ∀ j : Nat, j < len → w.cell? ⟨b, off + j, none⟩ = some (.int .u8 (zs[j]?.getD 0))) :
    CallsIn F n Tryd.prog 37 #[.slice (some ⟨b, off, none⟩) len cap] w fun e W' => e = .returned (.string (hexS (upto (back zs hu len) len))) ∧ Below w.heap.size w W' := by
  have h1 : 1 ≤ n := by omega
  refine callsIn_of_wp_marks Tryd.func37 rfl h4 ?_ hro
  simp only [Tryd.ntmps37, List.size_toArray, List.length_cons, List.length_nil, Nat.reduceAdd, Nat.reduceSub, Array.replicate_succ, Array.replicate_zero, List.push_toArray, List.append_toArray, List.nil_append, List.cons_append]
  gi_wp2_with (gi_at_call 55; refine (back_in F (n - 1) h6 hro _ _ _ _).mono ?_; rintro e w' ⟨rfl, rfl⟩)
  have bS := Boxed.new w 9 (.string { data := #[48, 120] })
  have bN := Boxed.new (w.alloc (.cells #[.string { data := #[48, 120] }] 9)) 22 (.slice (some ⟨b, off, none⟩) len cap)
  rw [World.size_alloc] at bN
  have hB0 : Below w.heap.size w ((w.alloc (.cells #[.string { data := #[48, 120] }] 9)).alloc (.cells #[.slice (some ⟨b, off, none⟩) len cap] 22)) := ((Below.refl _ w).alloc (Nat.le_refl _) _).alloc (by simp) _
  refine wpIn_rangeFunc_ownG hro h1 (gf := 67) (lb := #[.pointer (some ⟨w.heap.size + 1, 0, none⟩)]) rfl h8 (enters_of Tryd.func67 (by kernel_rfl) rfl)
    (back_stops F (n - 1) h8 hro (by omega) (w.heap.size + 1) w.heap.size b off len cap zs hu hreach _ (by simp) hb (by simp; omega) bN.cell (fun j hj => (hB0.cell (p := ⟨b, off + j, none⟩) hb).trans (hz j hj))) kept_t (kept_b (by simp; omega) (by simp)) (Below.refl _ _) (fun _ => rfl)
    (fun pre W => Boxed W w.heap.size 9 (.string (hexS pre)) ∧ Below w.heap.size ((w.alloc (.cells #[.string { data := #[48, 120] }] 9)).alloc (.cells #[.slice (some ⟨b, off, none⟩) len cap] 22)) W)
    (fun _ _ _ => False)
    (OwnFrom.and (Own.from (boxed_own w.heap.size 9 (fun pre => .string (hexS pre))) _) (ownFrom_below (by simp; omega) (by simp; omega)))
    (fun _ _ _ _ _ hs _ _ => hs)
    ⟨bS.alloc _, Below.refl _ _⟩
    (fun x => { tmps := #[.slice (some ⟨b, off, none⟩) len cap, undef, .string { data := #[] }, .pointer (some ⟨w.heap.size, 0, none⟩), undef, .int .u8 x.1.2, .slice (some ⟨b, off, none⟩) len cap, .func (.func 67) #[] #[.pointer (some ⟨w.heap.size + 1, 0, none⟩)], .int .i64 (x.1.1 : Int), .int .u8 x.1.2, undef, undef, undef, undef, undef, undef, undef, undef, undef, undef, undef], defers := [] }) ?assign ?body ?done ?stop
  case assign =>
    intro l x W K hK
    gi_wp2
    exact hK
  case body =>
    rintro l pre x W ⟨hbx, hB⟩ hlen
    have hsz2 := hB.size
    simp only [World.size_alloc] at hsz2
    gi_wp2
    refine body37 x.property (by rw [hexS_size]; omega) rfl rfl rfl rfl hbx ?_
    intro a' W' hsz hos htp hout hsame hnew
    refine ⟨⟨hsz, fun k o hk ho hc => ?_⟩, ⟨⟨hos, htp, hout, hsz, fun k hk => ?_⟩, ?_⟩, ?_, ?_⟩
    · have hlt := (Array.getElem?_eq_some_iff.1 ho).1
      rw [hsame k hlt (fun e => by subst e; rw [show W.heap[w.heap.size]? = _ from hbx] at ho; cases ho; cases hc)]
      exact ho
    · exact hsame k (by omega) (by omega)
    · exact hsame _ (by omega) (by omega)
    · show W'.heap[w.heap.size]? = _
      rw [hnew, hexS_snoc]
    · exact hB.trans ⟨hos, htp, hout, hsz, fun k hk => hsame k (by omega) (by omega)⟩
  case done =>
    rintro D ys W hD rfl ⟨hbx, hB⟩ hK
    have hc := hbx.cell
    gi_wp2
    refine ⟨by simp, .inl ⟨_, _, rfl, run_takeDeferred hK, ?_⟩⟩
    exact ⟨_, results_tmp rfl _ _ _, rfl, (hB0.trans hB).trans (belowK_b (w := w) (Nat.le_refl _) W D _ _ (by simp at hD; omega) hK rfl rfl)⟩
  case stop =>
    rintro D c pre W _ _ h _
    exact h.elim
end Go.Proofs.YtdglgiaegjkinaaDoor
