/- The program's Encode: what it hands back. -/
import Derived.Test.YtdfplmkaaodblaaDecP
namespace Go.Proofs.Ytdfplmkaaodblaa.dc
open Go Go.Sx Go.RowKit
set_option maxRecDepth 100000
noncomputable def body17 : Code := match Try.f17.body with
  | some c => c
  | none => .skip
noncomputable def lb17 : Code := match body17 with
  | .seq _ (.seq _ (.seq (.seq _ (.block _ (.loop b))) _)) => b
  | _ => .skip
def gA17 : GapSp := ⟨13, 19, 31, 32, 22, 5, 1, 1, 0⟩
def hb17 : HG := .seq .plain (.seq .plain (.seq (.block (.seq .plain (.seq .plain (.gap gA17)))) .plain))
structure Pn where
  i : Int
  nb : Nat
  oa : Option Addr
  oc : Nat
  xs : List SV
def SP17 (a : Option Addr) (m : Nat) (c : Nat) (mi : Int) (p : Pn) : SL := [(3, .one (.sl p.oa p.nb p.oc)), (11, .one (.sl a m c)), (12, .one (.int .i64 (.sym mi))), (13, .one (.int .i64 (.sym p.i)))]
def GPn (p : Pn) : Gh := [⟨5, 1, p.oa, p.nb, p.oc, p.xs⟩]
def ks17 : List (Nat × Bool) := [(3, true), (11, true), (12, true), (13, true)]
def ctlS (c : Int) (b : Bool) (n : Int) : Int := bif b then bits .or .u8 c (gshl .u8 1 n) else c
def ctl (b0 b1 b2 b3 b4 b5 b6 b7 : Bool) : Int := ctlS (ctlS (ctlS (ctlS (ctlS (ctlS (ctlS (bif !b0 then 1 else 0) b1 1) b2 2) b3 3) b4 4) b5 5) b6 6) b7 7
def bt1 (b : Bool) (k : Int) : Int := bif b then k else 0
def ctr (b0 b1 b2 b3 b4 b5 b6 b7 : Bool) : Int := bits .or .u8 (bits .or .u8 (bits .or .u8 (bits .or .u8 (bits .or .u8 (bits .or .u8 (bits .or .u8 (bt1 (!b0) 1) (bt1 b1 2)) (bt1 b2 4)) (bt1 b3 8)) (bt1 b4 16)) (bt1 b5 32)) (bt1 b6 64)) (bt1 b7 128)
theorem ctl_ctr : ∀ b0 b1 b2 b3 b4 b5 b6 b7 : Bool, ctl b0 b1 b2 b3 b4 b5 b6 b7 = ctr b0 b1 b2 b3 b4 b5 b6 b7 := by decide +kernel
theorem val25 (W : World) (b0 b1 b2 b3 b4 b5 b6 b7 : Bool) (r p : Int) : eval Try.prog W [] 25 [.agg [.bool (.sym b0), .bool (.sym b1), .bool (.sym b2), .bool (.sym b3), .bool (.sym b4), .bool (.sym b5), .bool (.sym b6), .bool (.sym b7), .int .u8 (.sym r), .int .u8 (.sym p)]] =
    some (.one (.int .u8 (.sym (ctl b0 b1 b2 b3 b4 b5 b6 b7)))) := by kernel_rfl
def FCtl : List TV → Option (SB × TV)
  | [.agg [.bool b0, .bool b1, .bool b2, .bool b3, .bool b4, .bool b5, .bool b6, .bool b7, .int .u8 _, .int .u8 _]] => some (.lit true, .one (.int .u8 (.sym (ctl b0.val b1.val b2.val b3.val b4.val b5.val b6.val b7.val))))
  | _ => none
theorem ctl_ok (W : World) : SpecOk W Try.prog 25 (specV FCtl) := by
  refine specV_ok' (G := []) (gok_nil W) ⟨Try.f25, Try.func25, by kernel_rfl, by kernel_rfl⟩ fun args c v hv hc => ?_
  unfold FCtl at hv
  split at hv <;> try contradiction
  rename_i b0 b1 b2 b3 b4 b5 b6 b7 r p
  simp only [Option.some.injEq, Prod.mk.injEq] at hv
  obtain ⟨rfl, rfl⟩ := hv
  exact ⟨rfl, rfl, by simp, [.agg [.bool (.sym b0.val), .bool (.sym b1.val), .bool (.sym b2.val), .bool (.sym b3.val), .bool (.sym b4.val), .bool (.sym b5.val), .bool (.sym b6.val), .bool (.sym b7.val), .int .u8 (.sym r.val), .int .u8 (.sym p.val)]], rfl, rfl, _, val25 W b0.val b1.val b2.val b3.val b4.val b5.val b6.val b7.val r.val p.val, fun _ => rfl⟩
def G17 (_ : World) : List (Nat × Sx.Spec) := [(25, specV FCtl)]
theorem gok17 (W : World) : GOk W Try.prog (G17 W) := gok_cons (ctl_ok W) (gok_nil W)
/-- The cells of an entry of a row that came in. -/
def ea (a : Option Addr) (i : Int) (j : Nat) : Addr := (atRow a i 10).add j
def rb (W : World) (a : Option Addr) (i : Int) (j : Nat) : Bool := rdBool W (ea a i j)
def ri (W : World) (a : Option Addr) (i : Int) (j : Nat) : Int := rdInt W (ea a i j)
def lies (W : World) (a : Option Addr) (i : Int) : Bool := isBool W (ea a i 0) && (isBool W (ea a i 1) && (isBool W (ea a i 2) && (isBool W (ea a i 3) && (isBool W (ea a i 4) && (isBool W (ea a i 5) && (isBool W (ea a i 6) && (isBool W (ea a i 7) && (isInt W .u8 (ea a i 8) && (isInt W .u8 (ea a i 9) && true)))))))))
def cw (W : World) (a : Option Addr) (i : Int) : Int := ctl (rb W a i 0) (rb W a i 1) (rb W a i 2) (rb W a i 3) (rb W a i 4) (rb W a i 5) (rb W a i 6) (rb W a i 7)
def encP (W : World) (a : Option Addr) (i : Int) : List SV := [.int .u8 (.sym (cw W a i)), .int .u8 (.sym (ri W a i 8)), .int .u8 (.sym (ri W a i 9)), .int .u8 (.sym (chk (cw W a i) (ri W a i 8) (ri W a i 9)))]
noncomputable def gn (oa : Option Addr) (nb oc : Nat) : Bool := (decide (oa = oa) && (decide (nb = nb) && decide (oc = oc))) && (decide (nb + 4 ≤ maxLen) && decide ((nb + 4) * 1 ≤ 140737488355328))
theorem round17 (W : World) (a : Option Addr) (m c : Nat) (mi : Int) (p : Pn) : (runG Try.prog W (G17 W) 100000 35 hb17 lb17 (SP17 a m c mi p) ⟨[], [], 0⟩ (GPn p)).slim 0 ks17 [] ke13 [] =
    RG.br (decide (p.i < mi)) (.any fun a' c' => .leaf .nrm (.sym ((inRow a m p.i && lies W a p.i) && gn p.oa p.nb p.oc)) (SP17 a m c mi ⟨gadd .i64 p.i 1, p.nb + 4, a', c', p.xs ++ encP W a p.i⟩) ⟨[], [], 0⟩
      (GPn ⟨gadd .i64 p.i 1, p.nb + 4, a', c', p.xs ++ encP W a p.i⟩)) (.leaf (.exit 0) (.lit true) [(3, .one (.sl p.oa p.nb p.oc))] ⟨[], [], 0⟩ (GPn p)) := by kernel_rfl
/-- A row of entries that came in. -/
structure RowS (W : World) (a : Option Addr) (n c : Nat) : Prop where
  le : n ≤ c
  max : c ≤ maxLen
  nil : a = none → n = 0
  flag : ∀ j, j < n → ∀ i, i < 8 → isBool W ((a.getD default).add (10 * j + i)) = true
  byte : ∀ j, j < n → ∀ i, i = 8 ∨ i = 9 → isInt W .u8 ((a.getD default).add (10 * j + i)) = true
theorem ea_eq (a : Option Addr) (j i : Nat) : ea a (j : Int) i = (a.getD default).add (10 * j + i) := by
  unfold ea atRow
  rw [Addr.add_add, Int.toNat_natCast, Nat.mul_comm]
theorem lies_ok {W : World} {a : Option Addr} {n c : Nat} (hr : RowS W a n c) {j : Nat} (hj : j < n) : lies W a (j : Int) = true := by
  unfold lies
  simp only [ea_eq, hr.flag j hj 0 (by decide), hr.flag j hj 1 (by decide), hr.flag j hj 2 (by decide), hr.flag j hj 3 (by decide), hr.flag j hj 4 (by decide), hr.flag j hj 5 (by decide), hr.flag j hj 6 (by decide), hr.flag j hj 7 (by decide), hr.byte j hj 8 (.inl rfl), hr.byte j hj 9 (.inr rfl), Bool.and_self]
theorem inRow_ok {W : World} {a : Option Addr} {n c : Nat} (hr : RowS W a n c) {j : Nat} (hj : j < n) : inRow a n (j : Int) = true := by
  have hs : a.isSome = true := by
    cases a with
    | none => have := hr.nil rfl; omega
    | some a => rfl
  unfold inRow
  rw [hs, decide_eq_true (show (0 : Int) ≤ (j : Int) by omega), decide_eq_true (show (j : Int) < (n : Int) by omega)]
  rfl
def encL (W : World) (a : Option Addr) : Nat → List SV
  | 0 => []
  | k + 1 => encL W a k ++ encP W a k
structure Inv17 (W : World) (a : Option Addr) (m : Nat) (p : Pn) (k : Nat) : Prop where
  i : p.i = (k : Int)
  nb : p.nb = 4 * k
  le : k ≤ m
  xs : p.xs = encL W a k
  big : m ≤ 65536
def Endn (W : World) (a : Option Addr) (m : Nat) : RG := .any fun a' c' => .leaf (.exit 0) (.lit true) [(3, .one (.sl a' (4 * m) c'))] ⟨[], [], 0⟩ [⟨5, 1, a', 4 * m, c', encL W a m⟩]
theorem gn_ok {oa : Option Addr} {nb oc : Nat} (h : nb ≤ 262144) : gn oa nb oc = true := by
  unfold gn
  have hm : maxLen = 9223372036854775807 := by decide
  simp only [decide_true, Bool.true_and, Bool.and_eq_true, decide_eq_true_eq, Bool.and_self]
  omega
theorem step17 {W : World} {a : Option Addr} {m c : Nat} (hr : RowS W a m c) : StepOk W Try.prog (G17 W) 100000 35 hb17 lb17 0 ks17 [] ke13 [] (fun p => ∃ k, Inv17 W a m p k) (fun p => m - p.i.toNat) (SP17 a m c (m : Int)) (fun _ => []) GPn (Endn W a m) := by
  constructor
  rintro ⟨i, nb, oa, oc, xs⟩ ⟨k, hi, hnb, hle, hx, hbig⟩
  rw [show (Bs.of W).W = W from rfl, round17]
  dsimp only at hi hnb hx ⊢
  subst hi hnb hx
  have g1 : gadd .i64 (k : Int) 1 = ((k + 1 : Nat) : Int) := by
    unfold gadd
    rw [IntKind.wrap_i64]
    omega
  constructor
  · intro hc a' c'
    have hk : k < m := by
      have := of_decide_eq_true hc
      omega
    refine ⟨by rw [SB.val_sym, inRow_ok hr hk, lies_ok hr hk, gn_ok (by omega)]; rfl, .inl ⟨rfl, ⟨gadd .i64 (k : Int) 1, 4 * k + 4, a', c', encL W a k ++ encP W a k⟩, ⟨k + 1, g1, by dsimp only; omega, by omega, rfl, hbig⟩, ?_, rfl, rfl, rfl⟩⟩
    dsimp only
    rw [g1]
    omega
  · intro hc
    refine ⟨rfl, .inr ⟨by simp, fun f ac w hst e' he' => ?_⟩⟩
    have hk : k = m := by
      have := of_decide_eq_false hc
      omega
    subst hk
    exact ⟨oa, oc, he', f, hst⟩
noncomputable def h17 (W : World) (a : Option Addr) (m c : Nat) : LG := .at_ (decide (m ≤ 65536)) ks17 [] 0 (SP17 a m c (m : Int) ⟨0, 0, none, 0, []⟩) [] [] (Endn W a m)
theorem hgb17 : hgB Try.prog 35 hb17 lb17 = true := by kernel_rfl
theorem hok17 (W : World) : HGOk W Try.prog 35 hb17 lb17 := hgB_ok (W := W) (P := Try.prog) (nt := 35) hb17 lb17 hgb17
theorem loop17 {W : World} {a : Option Addr} {m c : Nat} (hr : RowS W a m c) : LoopGOk W Try.prog 35 lb17 (h17 W a m c) := by
  refine loopG_step (gok17 W) (hok17 W) rfl rfl (step17 hr) ?_
  intro hc
  exact ⟨⟨0, 0, none, 0, []⟩, ⟨0, rfl, rfl, Nat.zero_le _, rfl, of_decide_eq_true hc⟩, rfl, rfl, .inr ⟨5, 1, rfl⟩⟩
def mm (n : Nat) : Nat := (gmin (n : Int) 65536).toNat
theorem mm_eq (n : Nat) : mm n = min n 65536 := by
  unfold mm gmin
  split <;> omega
noncomputable def t17 (W : World) (a : Option Addr) (n c : Nat) : HG := .seq .plain (.seq .plain (.seq (.seq .plain (.block (.loop (h17 W (cutA a c 0 10) (mm n) c)))) .plain))
theorem whole17 (W : World) (a : Option Addr) (n c : Nat) : (runG Try.prog W (G17 W) 100000 35 (t17 W a n c) body17 (argSlots 0 [.one (.sl a n c)]) noMem []).slim 0 [] [] [(2, false)] [] =
    .any fun a' c' => .leaf .ret (.sym ((decide (0 ≤ gmin (n : Int) 65536) && decide (gmin (n : Int) 65536 ≤ (c : Int))) && (decide (mm n ≤ 65536) && (sameS (SP17 (cutA a c 0 10) (mm n) c (mm n : Int) ⟨0, 0, none, 0, []⟩) (SP17 (cutA a c 0 10) (mm n) c (mm n : Int) ⟨0, 0, none, 0, []⟩) && (sameB [] [] && @decide (([] : Gh) = []) (Classical.propDecidable _))))))
      [(2, .one (.sl a' (4 * mm n) c'))] ⟨[], [], 0⟩ [⟨5, 1, a', 4 * mm n, c', encL W (cutA a c 0 10) (mm n)⟩] := by kernel_rfl
theorem RowS.cut {W : World} {a : Option Addr} {n c : Nat} (hr : RowS W a n c) {m : Nat} (hm : m ≤ n) : RowS W (cutA a c 0 10) m c ∧ ∀ j : Nat, ((cutA a c 0 10).getD default).add j = (a.getD default).add j := by
  have he : ∀ j : Nat, ((cutA a c 0 10).getD default).add j = (a.getD default).add j := by
    intro j
    unfold cutA
    split
    · rfl
    · cases a with
      | none => rfl
      | some q => simp only [Option.map_some, Option.getD_some, Nat.zero_mul, Addr.add_add, Nat.zero_add]
  have hle := hr.le
  refine ⟨⟨by omega, hr.max, ?_, ?_, ?_⟩, he⟩
  · intro h
    unfold cutA at h
    split at h
    · have := hr.nil h; omega
    · cases a with
      | none => have := hr.nil rfl; omega
      | some q => simp at h
  · intro j hj i hi
    rw [he]
    exact hr.flag j (by omega) i hi
  · intro j hj i hi
    rw [he]
    exact hr.byte j (by omega) i hi
theorem encL_cut {W : World} {a b : Option Addr} (h : ∀ j : Nat, (a.getD default).add j = (b.getD default).add j) : ∀ k, encL W a k = encL W b k
  | 0 => rfl
  | k + 1 => by
    have e : ∀ i, ea a (k : Int) i = ea b (k : Int) i := fun i => by rw [ea_eq, ea_eq, h]
    rw [encL, encL, encL_cut h k]
    unfold encP cw rb ri
    simp only [e]
/-- The program's Encode hands back a new slice of these bytes. -/
theorem enc17 {W : World} {a : Option Addr} {n c : Nat} (hr : RowS W a n c) : Calls Try.prog 17 #[.slice a n c] W fun en w' =>
    ∃ a' c', en = .returned (.slice a' (4 * min n 65536) c') ∧ w'.ownsRow W.heap.size 5 1 (.slice a' (4 * min n 65536) c') (4 * min n 65536) ((encL W a (min n 65536)).map (SV.den fun _ => 0)) ∧ Below W.heap.size W w' := by
  have hle := hr.le
  obtain ⟨hcut, hadd⟩ := hr.cut (m := mm n) (by rw [mm_eq]; omega)
  have hcalls := calls_of_runG (gok17 W) (n := 100000) (g := 17) Try.func17 (show Try.f17.body = some body17 by kernel_rfl) (t := t17 W a n c) (args := [.one (.sl a n c)]) ?_ (by rw [show Try.f17.ntmps = 35 by kernel_rfl]; simp)
    (R := fun v g => ∃ a' c', v = .one (.sl a' (4 * mm n) c') ∧ g = [⟨5, 1, a', 4 * mm n, c', encL W (cutA a c 0 10) (mm n)⟩]) (N := 0) (ks := []) (bs := []) (ke := [(2, false)]) (be := []) rfl rfl ?_
  · refine hcalls.mono ?_
    rintro en w' ⟨v, g, f, ⟨a', c', rfl, rfl⟩, rfl, hown, hb⟩
    have h1 := hown 0 _ rfl
    unfold Own.rel Own.vals at h1
    rw [encL_cut hadd, mm_eq] at h1
    exact ⟨a', c', by rw [mm_eq]; rfl, h1, hb⟩
  · have e : HGOk W Try.prog Try.f17.ntmps (t17 W a n c) body17 = (True ∧ True ∧ ((True ∧ LoopGOk W Try.prog 35 lb17 (h17 W (cutA a c 0 10) (mm n) c)) ∧ True)) := by kernel_rfl
    rw [e]
    exact ⟨trivial, trivial, ⟨trivial, loop17 hcut⟩, trivial⟩
  · rw [show Try.f17.ntmps = 35 by kernel_rfl, whole17]
    intro a' c'
    refine ⟨?_, .inr rfl, ?_⟩
    · have h1 : gmin (n : Int) 65536 = ((min n 65536 : Nat) : Int) := by unfold gmin; split <;> omega
      rw [SB.val_sym, sameS_refl (by rfl), sameB_refl (by rfl), @decide_eq_true _ (Classical.propDecidable _) rfl, h1, decide_eq_true (show (0 : Int) ≤ ((min n 65536 : Nat) : Int) by omega), decide_eq_true (show ((min n 65536 : Nat) : Int) ≤ (c : Int) by omega), decide_eq_true (show mm n ≤ 65536 by rw [mm_eq]; omega)]
      rfl
    · exact ⟨[(false, [.sl a' (4 * mm n) c'])], .one (.sl a' (4 * mm n) c'), by kernel_rfl, rfl, a', c', rfl, rfl⟩
end Go.Proofs.Ytdfplmkaaodblaa.dc
