/- ListingParses: the bytes of any text, or the error. -/
import Derived.Test.YtdglgiaegjkinaaDoorUn
import Derived.Test.YtdglgiaegjkinaaDoorClo
import Derived.Test.YtdglgiaegjkinaaDoorCards
namespace Go.Proofs.YtdglgiaegjkinaaDoor.listingParses
open Go Go.Sx Go.RowKit Go.ChangeShapes Go.WideShapes Go.ChangeAt Go.Deep
set_option maxRecDepth 100000
/-! ### The pieces of the body -/
noncomputable def ob4 : Code := match bodyOf Tryd.f4 with
  | .seq _ (.seq _ (.seq _ (.seq _ (.seq _ (.seq _ (.seq (.seq _ (.block _ (.loop c))) _)))))) => c
  | _ => .skip
noncomputable def ib4 : Code := match ob4 with
  | .seq _ (.seq _ (.seq (.block _ (.seq _ (.seq _ (.block _ (.loop c))))) _)) => c
  | _ => .skip
noncomputable def in4 : Code := match ib4 with
  | .seq _ (.seq _ (.seq (.block _ (.seq _ c)) _)) => c
  | _ => .skip
noncomputable def pa4 : Code := match in4 with
  | .seq c _ => c
  | _ => .skip
noncomputable def pb4 : Code := match in4 with
  | .seq _ (.seq c _) => c
  | _ => .skip
noncomputable def eq4 : Code := match in4 with
  | .seq _ (.seq _ c) => c
  | _ => .skip
/-! ### One text at one chip -/
def gI (t : Option TV) : Option SI := match t with
  | some (.one (.int .i64 e)) => some e
  | _ => none
def gS (t : Option TV) : Option ByteArray := match t with
  | some (.one (.str z)) => some z
  | _ => none
def g1 : SV → Option ByteArray
  | .str z => some z
  | _ => none
def g2 : SV → Option SI
  | .int .i64 z => some z
  | _ => none
def gL {α : Type} (f : SV → Option α) : List SV → Option (List α)
  | [] => some []
  | v :: l => match f v with
    | none => none
    | some z => match gL f l with
      | none => none
      | some r => some (z :: r)
def gA (t : Option TV) : Option (List SV) := match t with
  | some (.agg l) => some l
  | _ => none
def g4 (t : Option TV) : Option (ByteArray × ByteArray × ByteArray × ByteArray) := match gA t with
  | some l => match gL g1 l with
    | some [a, b, c, d] => some (a, b, c, d)
    | _ => none
  | none => none
def gP (t : Option TV) : Option (SI × SI) := match gA t with
  | some l => match gL g2 l with
    | some [a, b] => some (a, b)
    | _ => none
  | none => none
theorem gI_eq {t : Option TV} {e : SI} (h : gI t = some e) : t = some (.one (.int .i64 e)) := by
  unfold gI at h
  split at h
  · simp only [Option.some.injEq] at h
    subst h
    rfl
  · cases h
theorem gS_eq {t : Option TV} {e : ByteArray} (h : gS t = some e) : t = some (.one (.str e)) := by
  unfold gS at h
  split at h
  · simp only [Option.some.injEq] at h
    subst h
    rfl
  · cases h
theorem gA_eq {t : Option TV} {l : List SV} (h : gA t = some l) : t = some (.agg l) := by
  unfold gA at h
  split at h
  · simp only [Option.some.injEq] at h
    subst h
    rfl
  · cases h
theorem g1_eq {v : SV} {z : ByteArray} (h : g1 v = some z) : v = .str z := by
  unfold g1 at h
  split at h
  · simp only [Option.some.injEq] at h
    subst h
    rfl
  · cases h
theorem g2_eq {v : SV} {z : SI} (h : g2 v = some z) : v = .int .i64 z := by
  unfold g2 at h
  split at h
  · simp only [Option.some.injEq] at h
    subst h
    rfl
  · cases h
theorem gL_eq {α : Type} {f : SV → Option α} {g : α → SV} (hf : ∀ {v z}, f v = some z → v = g z) : ∀ {l : List SV} {r : List α}, gL f l = some r → l = r.map g
  | [], r, h => by
    simp only [gL, Option.some.injEq] at h
    subst h
    rfl
  | v :: l, r, h => by
    unfold gL at h
    split at h
    · cases h
    · rename_i z hz
      split at h
      · cases h
      · rename_i q hq
        simp only [Option.some.injEq] at h
        subst h
        rw [hf hz, gL_eq hf hq]
        rfl
theorem g4_eq {t : Option TV} {p : ByteArray × ByteArray × ByteArray × ByteArray} (h : g4 t = some p) : t = some (.agg [.str p.1, .str p.2.1, .str p.2.2.1, .str p.2.2.2]) := by
  unfold g4 at h
  split at h
  · rename_i l hl
    split at h
    · rename_i a b c d hr
      simp only [Option.some.injEq] at h
      subst h
      rw [gA_eq hl, gL_eq (g := SV.str) (fun h => g1_eq h) hr]
      rfl
    · cases h
  · cases h
theorem gP_eq {t : Option TV} {p : SI × SI} (h : gP t = some p) : t = some (.agg [.int .i64 p.1, .int .i64 p.2]) := by
  unfold gP at h
  split at h
  · rename_i l hl
    split at h
    · rename_i a b hr
      simp only [Option.some.injEq] at h
      subst h
      rw [gA_eq hl, gL_eq (g := SV.int .i64) (fun h => g2_eq h) hr]
      rfl
    · cases h
  · cases h
/-- What is kept through a round. -/
structure K4 where
  a0 : SI
  a15 : SI
  z : ByteArray
  d : SI
  zs : ByteArray × ByteArray × ByteArray × ByteArray
  i : SI
  cs : SI × SI
  j : SI
def S4 (k : K4) : SL := [(0, .one (.int .i64 k.a0)), (15, .one (.int .i64 k.a15)), (22, .one (.str k.z)), (24, .one (.int .i64 k.d)), (72, .agg [.str k.zs.1, .str k.zs.2.1, .str k.zs.2.2.1, .str k.zs.2.2.2]), (73, .one (.int .i64 k.i)), (78, .agg [.int .i64 k.cs.1, .int .i64 k.cs.2]), (79, .one (.int .i64 k.j))]
def keep4 (s : SL) : Option K4 := match gI (Sx.look s 0), gI (Sx.look s 15), gS (Sx.look s 22), gI (Sx.look s 24) with
  | some a0, some a15, some z, some d => match g4 (Sx.look s 72), gI (Sx.look s 73), gP (Sx.look s 78), gI (Sx.look s 79) with
    | some q, some i, some p, some j => some ⟨a0, a15, z, d, q, i, p, j⟩
    | _, _, _, _ => none
  | _, _, _, _ => none
theorem keep4_mem {s : SL} {k : K4} (h : keep4 s = some k) : ∀ p ∈ S4 k, Sx.look s p.1 = some p.2 ∧ p.2 ≠ .un ∧ ∀ f f' : Nat → Nat, p.2.den f = p.2.den f' := by
  unfold keep4 at h
  split at h
  · rename_i a0 a15 z d h0 h15 h22 h24
    split at h
    · rename_i q i p j h72 h73 h78 h79
      simp only [Option.some.injEq] at h
      subst h
      intro p hp
      simp only [S4, List.mem_cons, List.not_mem_nil, or_false] at hp
      rcases hp with rfl | rfl | rfl | rfl | rfl | rfl | rfl | rfl
      · exact ⟨gI_eq h0, by simp, fun _ _ => rfl⟩
      · exact ⟨gI_eq h15, by simp, fun _ _ => rfl⟩
      · exact ⟨gS_eq h22, by simp, fun _ _ => rfl⟩
      · exact ⟨gI_eq h24, by simp, fun _ _ => rfl⟩
      · exact ⟨g4_eq h72, by simp, fun _ _ => rfl⟩
      · exact ⟨gI_eq h73, by simp, fun _ _ => rfl⟩
      · exact ⟨gP_eq h78, by simp, fun _ _ => rfl⟩
      · exact ⟨gI_eq h79, by simp, fun _ _ => rfl⟩
    · cases h
  · cases h
noncomputable def F4 (s : SL) (m : Mem) (_ : Gh) : RG := match keep4 s with
  | some k => .leaf .nrm (.sym (decide (k.z.size ≤ 1000000))) (S4 k) ⟨[], [], m.next⟩ []
  | none => .fail
noncomputable def G4 (W : World) : List (Nat × Sx.Spec) := [(8, specFmt W), (9, specV F09)]
theorem g4_ok {W : World} (hT : Tabs W) : GOk W Tryd.prog (G4 W) := gok_cons (fmt_spec named8 fmt8 W) (gok_cons (spec9 hT) (gok_nil W))
noncomputable def tI : HG := .seq .plain (.seq .plain (.seq (.block (.seq .plain (.cust F4))) .plain))
noncomputable def tO (W : World) : HG := .seq .plain (.seq .plain (.seq (.block (.seq .plain (.seq .plain (.block (.cust (loopU Tryd.prog W (G4 W) 100000 106 tI ib4 3)))))) .plain))
noncomputable def t4 (W : World) : HG := .seq .plain (.seq .plain (.seq .plain (.seq .plain (.seq .plain (.seq .plain (.seq (.seq .plain (.block (.cust (loopU Tryd.prog W (G4 W) 100000 106 (tO W) ob4 5)))) .plain))))))
noncomputable def x4 (W : World) (chip : Int) (s : ByteArray) (op x y at' by' : Int) : RG := (runG Tryd.prog W (G4 W) 100000 106 (t4 W) (bodyOf Tryd.f4) (argSlots 0 [.one (.int .i64 (.sym chip)), .one (.str s), .one (.int .u8 (.sym op)), .one (.int .u8 (.sym x)), .one (.int .u8 (.sym y)), .one (.int .i64 (.sym at')), .one (.int .u8 (.sym by'))]) noMem []).slim 2 [] [] [(14, false)] []
def isBr : RG → Bool
  | .br _ _ _ => true
  | _ => false
def brB : RG → Bool
  | .br b _ _ => b
  | _ => true
def brN : RG → RG
  | .br _ _ y => y
  | _ => .fail
def leafN : RG → Option (SB × SL)
  | .leaf .nrm vc s _ _ => some (vc, s)
  | _ => none
theorem goes_br {out : SL} {r : RG} {vc : SB} {s : SL} (h : isBr r = true) (hq : brB r = false) (hl : leafN (brN r) = some (vc, s)) (hvc : vc.val = true) (ho : ∀ p ∈ out, Sx.look s p.1 = some p.2 ∧ p.2 ≠ .un ∧ ∀ f f' : Nat → Nat, p.2.den f = p.2.den f') : GoesOn out r := by
  match r, h with
  | .br b x y, _ =>
    refine ⟨⟨fun hb => ?_, fun _ => ?_⟩⟩
    · have : b = false := hq
      rw [this] at hb
      cases hb
    · have hl : leafN y = some (vc, s) := hl
      match y, hl with
      | .leaf .nrm v s' m g, hl =>
        unfold leafN at hl
        simp only [Option.some.injEq, Prod.mk.injEq] at hl
        obtain ⟨rfl, rfl⟩ := hl
        exact ⟨hvc, rfl, fun p hp => ⟨p.2, ho p hp⟩⟩
noncomputable def SE (S : SL) (a : Option Addr) (n k : Nat) (a' : Option Addr) (n' k' : Nat) (e : Int) : SL := (25, .one (.sl a n k)) :: (26, .one (.int .i64 (.lit e))) :: (27, .one (.sl a' n' k')) :: (28, .one (.int .i64 (.lit e))) :: S
noncomputable def GE (w : World) : List (Nat × Sx.Spec) := [(13, spec13 w)]
theorem ge_ok (w : World) : GOk w Tryd.prog (GE w) := gok_cons (spec13_ok w) (gok_nil w)
def looks (s : SL) : List (Option TV) := [Sx.look s 0, Sx.look s 15, Sx.look s 22, Sx.look s 24, Sx.look s 72, Sx.look s 73, Sx.look s 78, Sx.look s 79]
section
variable (w : World) (q : K4) (a : Option Addr) (n k : Nat) (a' : Option Addr) (n' k' : Nat)
noncomputable def xE (e : Int) : RG := runG Tryd.prog w (GE w) 100000 106 .plain eq4 (SE (S4 q) a n k a' n' k' e) ⟨[], [], 0⟩ []
def qE : Bool := !decide (inL w a n = inL w a' n')
noncomputable def yE : Bool := yes (RowOk w .u8 a n k ∧ (a = none ∨ okA a = true)) && yes (RowOk w .u8 a' n' k' ∧ (a' = none ∨ okA a' = true))
theorem xE_eq0 : (isBr (xE w q a n k a' n' k' 0), brB (xE w q a n k a' n' k' 0), (leafN (brN (xE w q a n k a' n' k' 0))).map (fun p => (p.1, looks p.2))) =
    (true, qE w a n a' n', some (.sym (bif qE w a n a' n' then yE w a n k a' n' k' else yE w a n k a' n' k'), looks (S4 q))) := by kernel_rfl
end
theorem looks_get {s : SL} {q : K4} (h : looks s = looks (S4 q)) : ∀ p ∈ S4 q, Sx.look s p.1 = some p.2 ∧ p.2 ≠ .un ∧ ∀ f f' : Nat → Nat, p.2.den f = p.2.den f' := by
  unfold looks at h
  simp only [List.cons.injEq, and_true] at h
  obtain ⟨h0, h1, h2, h3, h4, h5, h6, h7⟩ := h
  intro p hp
  simp only [S4, List.mem_cons, List.not_mem_nil, or_false] at hp
  rcases hp with rfl | rfl | rfl | rfl | rfl | rfl | rfl | rfl
  · exact ⟨h0, by simp, fun _ _ => rfl⟩
  · exact ⟨h1, by simp, fun _ _ => rfl⟩
  · exact ⟨h2, by simp, fun _ _ => rfl⟩
  · exact ⟨h3, by simp, fun _ _ => rfl⟩
  · exact ⟨h4, by simp, fun _ _ => rfl⟩
  · exact ⟨h5, by simp, fun _ _ => rfl⟩
  · exact ⟨h6, by simp, fun _ _ => rfl⟩
  · exact ⟨h7, by simp, fun _ _ => rfl⟩
theorem goesE {w : World} {q : K4} {a : Option Addr} {n k : Nat} {a' : Option Addr} {n' k' : Nat} {r : RG}
    (hx : (isBr r, brB r, (leafN (brN r)).map (fun p => (p.1, looks p.2))) = (true, qE w a n a' n', some (.sym (bif qE w a n a' n' then yE w a n k a' n' k' else yE w a n k a' n' k'), looks (S4 q))))
    {l : List Int} (h1 : RowZ w a n k l) (h2 : RowZ w a' n' k' l) (hb : BytL l) : GoesOn (S4 q) r := by
  simp only [Prod.mk.injEq] at hx
  obtain ⟨hx1, hx2, hx3⟩ := hx
  rw [Option.map_eq_some_iff] at hx3
  obtain ⟨⟨vc, s2⟩, hx4, hx5⟩ := hx3
  simp only [Prod.mk.injEq] at hx5
  have hq : qE w a n a' n' = false := by
    unfold qE
    rw [h1.inL, h2.inL, decide_eq_true rfl]
    rfl
  have hy : yE w a n k a' n' k' = true := by
    unfold yE
    rw [yes_of ⟨h1.row hb, h1.flat⟩, yes_of ⟨h2.row hb, h2.flat⟩]
    rfl
  refine goes_br hx1 (hx2.trans hq) hx4 ?_ (looks_get hx5.2)
  rw [hx5.1, SB.val_sym, hq, hy]
  rfl
/-! ### The two walks among the operations of their regions -/
structure Ok12 (c : Int) (t : ByteArray) (z : Option (Nat × List Int)) : Prop where
  big : t.size ≤ 1000000
  sc : (scanR (c == 2) t 256).map (fun u => ((tabK (c == 2) u).1, [(u : Int), (opR t ((tabK (c == 2) u).1 : Int)).1, (opR t ((tabK (c == 2) u).1 : Int)).2.1])) = z
noncomputable def parR (x y : Operand) (d : Nat) (z : Option (Nat × List Int)) (s : SL) (m : Mem) (g : Gh) : RG := match evalO (Sx.look s) x, evalO (Sx.look s) y with
  | some (.one (.int .i64 c)), some (.one (.str t)) => match z with
    | some (L, l) => .any fun a _ => .leaf .nrm (.sym (yes (Ok12 c.val t (some (L, l))))) (putS (some d) (.tup [(false, [.sl a L 3]), (false, [.int .i64 (.lit 0)])]) s) m (g ++ [⟨5, 1, a, 3, 3, zs l⟩])
    | none => .leaf .nrm (.sym (yes (Ok12 c.val t none))) (putS (some d) (.tup [(false, [.sl none 0 0]), (false, [.int .i64 (.lit 2)])]) s) m g
  | _, _ => .fail
theorem named12 : Named 12 := ⟨Tryd.f12, Tryd.func12, by kernel_rfl, by kernel_rfl⟩
theorem parR_ok {W : Bs} {nt d : Nat} {x y : Operand} {o : Oper} {z : Option (Nat × List Int)} (hdst : o.dst = some d) (hop : callOf o = some (.func 12, [x, y])) (hd : d < nt) : CallOk W Tryd.prog nt o (parR x y d z) := by
  intro s m g f a w Q hgood h
  unfold parR at hgood ⊢
  split at hgood <;> try exact hgood.elim
  rename_i c t hx hy
  have hl : evalList (Sx.look s) [x, y] = some [.one (.int .i64 c), .one (.str t)] := by
    simp only [evalList, hx, hy]
  cases z with
  | none =>
    obtain ⟨h1, h2⟩ := of_yes (show yes (Ok12 c.val t none) = true from hgood)
    have hc := par12 (W := w) c.val h1
    rw [Option.map_eq_none_iff] at h2
    rw [h2] at hc
    refine call_wp hop h.slots rfl hl named12 hc ?_
    rintro en w' ⟨hb, rfl⟩
    refine ⟨_, rfl, rfl, f, ?_⟩
    rw [hdst]
    exact h.call hb hd rfl
  | some q =>
    obtain ⟨L, l⟩ := q
    obtain ⟨h1, h2⟩ := of_yes (show yes (Ok12 c.val t (some (L, l))) = true from hgood none 0)
    rw [Option.map_eq_some_iff] at h2
    obtain ⟨u, h2, h3⟩ := h2
    have hc := par12 (W := w) c.val h1
    rw [h2] at hc
    simp only [Prod.mk.injEq] at h3
    obtain ⟨rfl, rfl⟩ := h3
    refine call_wp hop h.slots rfl hl named12 hc ?_
    rintro en w' ⟨hb, b, rfl, hown⟩
    refine ⟨_, rfl, b, 0, rfl, f, ?_⟩
    rw [hdst]
    exact h.callOwnV hb hd (o := ⟨5, 1, b, 3, 3, zs [(u : Int), (opR t ((tabK (c.val == 2) u).1 : Int)).1, (opR t ((tabK (c.val == 2) u).1 : Int)).2.1]⟩) hown rfl
structure OkS (l : List Int) (a : Option Addr) (n k : Nat) (n' k' : Nat) (a' : Option Addr) (e e' : Int) (o o' : Sx.Own) : Prop where
  he : e = 0
  he' : e' = 0
  hn : n' = n
  hk : k' = 3
  le : n ≤ 3
  ho : OkZ o a n k (l.take n)
  ho' : OkZ o' a' 3 3 l
  hb : BytL l
def gSl (t : Option TV) : Option (Option Addr × Nat × Nat) := match t with
  | some (.one (.sl a n k)) => some (a, n, k)
  | _ => none
theorem gSl_eq {t : Option TV} {p : Option Addr × Nat × Nat} (h : gSl t = some p) : t = some (.one (.sl p.1 p.2.1 p.2.2)) := by
  unfold gSl at h
  split at h
  · simp only [Option.some.injEq] at h
    subst h
    rfl
  · cases h
noncomputable def FS (l : List Int) (s : SL) (m : Mem) (g : Gh) : RG := match keep4 s, gSl (Sx.look s 25), gI (Sx.look s 26), gSl (Sx.look s 27), gI (Sx.look s 28), g[0]?, g[1]? with
  | some q, some p, some e, some p', some e', some o, some o' => .leaf .nrm (.sym (yes (OkS l p.1 p.2.1 p.2.2 p'.2.1 p'.2.2 p'.1 e.val e'.val o o'))) (S4 q) ⟨[], [], m.next⟩ []
  | _, _, _, _, _, _, _ => .fail
theorem fs_ok {W : Bs} (hpin : W.pin = none) (l : List Int) : CustOk W Tryd.prog 106 eq4 (FS l) := by
  intro s m g f a w hgood h
  unfold FS at hgood ⊢
  split at hgood <;> try exact hgood.elim
  rename_i q p e p' e' o o' hS h25 h26 h27 h28 hg0 hg1
  obtain ⟨he, he', hn, hk, hle, ho, ho', hb⟩ := of_yes hgood
  have hr1 := ho.row (h.gh.own 0 o hg0)
  have hr2 := ho'.row (h.gh.own 1 o' hg1)
  have hne : p'.1 ≠ none := by
    intro h0
    have := hr2.nil h0
    omega
  have hr3 := hr2.cut hle hne
  have hgo : GoesOn (S4 q) (xE w q p.1 p.2.1 p.2.2 p'.1 p.2.1 3 0) := goesE (xE_eq0 w q p.1 p.2.1 p.2.2 p'.1 p.2.1 3) hr1 hr3 (bytL_take hb _)
  unfold xE at hgo
  refine shift_on (t := .plain) (c := eq4) (N := 100000) hpin h ?_ (ge_ok w) trivial hgo
  intro y hy
  simp only [SE, List.mem_cons] at hy
  rcases hy with rfl | rfl | rfl | rfl | hy
  · exact ⟨_, gSl_eq h25, by simp, rfl⟩
  · exact ⟨_, gI_eq h26, by simp, by show Value.int .i64 e.val = .int .i64 0; rw [he]⟩
  · exact ⟨_, gSl_eq h27, by simp, by rw [hn, hk]⟩
  · exact ⟨_, gI_eq h28, by simp, by show Value.int .i64 e'.val = .int .i64 0; rw [he']⟩
  · obtain ⟨h3, h4, _⟩ := keep4_mem hS y hy
    exact ⟨y.2, h3, h4, rfl⟩
noncomputable def tB (w : World) (zp : Option (List Int)) (zr : Option (Nat × List Int)) (e : HG) : HG := .seq (.cust (runCalls Tryd.prog w (GE w) 100000 106 (opsOf pa4) [⟨2, parO (.tmp 83) (.tmp 84) 85 zp⟩] 0)) (.seq (.cust (runCalls Tryd.prog w (GE w) 100000 106 (opsOf pb4) [⟨2, parR (.tmp 89) (.tmp 90) 91 zr⟩] 0)) e)
noncomputable def xB (w : World) (zp : Option (List Int)) (zr : Option (Nat × List Int)) (e : HG) (q : K4) : RG := runG Tryd.prog w (GE w) 100000 106 (tB w zp zr e) in4 (S4 q) ⟨[], [], 0⟩ []
theorem xB_no (w : World) (q : K4) : (isBr (xB w none none .plain q), brB (xB w none none .plain q), (leafN (brN (xB w none none .plain q))).map (fun p => (p.1, looks p.2))) =
    (true, qE w none 0 none 0, some (.sym (yes (OkP q.d.val q.z none) && (yes (Ok12 q.d.val q.z none) && (bif qE w none 0 none 0 then yE w none 0 0 none 0 0 else yE w none 0 0 none 0 0))), looks (S4 q))) := by kernel_rfl
theorem xB_yes (w : World) (q : K4) (l l' : List Int) (L : Nat) : xB w (some l) (some (L, l')) (.cust (FS l')) q = .any fun a k => .any fun a' _ => .leaf .nrm (.sym (yes (OkP q.d.val q.z (some l)) && (yes (Ok12 q.d.val q.z (some (L, l'))) && yes (OkS l' a l.length k L 3 a' 0 0 ⟨5, 1, a, l.length, k, zs l⟩ ⟨5, 1, a', 3, 3, zs l'⟩)))) (S4 q) ⟨[], [], 0⟩ [] := by kernel_rfl
theorem hB_ok {w : World} (hT : Tabs w) (zp : Option (List Int)) (zr : Option (Nat × List Int)) {e : HG} (he : HGOk (w : Bs) Tryd.prog 106 e eq4) : HGOk (w : Bs) Tryd.prog 106 (tB w zp zr e) in4 := by
  have e1 : HGOk (w : Bs) Tryd.prog 106 (tB w zp zr e) in4 = (CustOk (w : Bs) Tryd.prog 106 pa4 (runCalls Tryd.prog w (GE w) 100000 106 (opsOf pa4) [⟨2, parO (.tmp 83) (.tmp 84) 85 zp⟩] 0) ∧ CustOk (w : Bs) Tryd.prog 106 pb4 (runCalls Tryd.prog w (GE w) 100000 106 (opsOf pb4) [⟨2, parR (.tmp 89) (.tmp 90) 91 zr⟩] 0) ∧ HGOk (w : Bs) Tryd.prog 106 e eq4) := by kernel_rfl
  rw [e1]
  refine ⟨?_, ?_, he⟩
  · have hk : CallGOk (w : Bs) Tryd.prog 106 (opsOf pa4) ⟨2, parO (.tmp 83) (.tmp 84) 85 zp⟩ := by
      have he : ((opsOf pa4).toList[2]?).map (fun o => (gNone o, o.dst, callOf o)) = some (true, some 85, some (.func 11, [.tmp 83, .tmp 84])) := by kernel_rfl
      cases ho : (opsOf pa4).toList[2]? with
      | none => rw [ho] at he; cases he
      | some o =>
        rw [ho] at he
        simp only [Option.map_some, Option.some.injEq, Prod.mk.injEq] at he
        refine callG_of ho ?_ (parO_ok (W := (w : Bs)) hT he.2.1 he.2.2 (by decide))
        have h1 := he.1
        unfold gNone at h1
        split at h1
        · assumption
        · cases h1
    have := calls_cust (W := (w : Bs)) (P := Tryd.prog) (G := GE w) (N := 100000) (nt := 106) (id := idC pa4) (ge_ok w) (ops := opsOf pa4) (l := [⟨2, parO (.tmp 83) (.tmp 84) 85 zp⟩]) (by intro d hd; rw [List.mem_singleton] at hd; rw [hd]; exact hk) (by simp)
    have hr : pa4 = .region (idC pa4) (opsC pa4) false := by kernel_rfl
    rw [opsOf_opsC, ← hr] at this
    rw [opsOf_opsC]
    exact this
  · have hk : CallGOk (w : Bs) Tryd.prog 106 (opsOf pb4) ⟨2, parR (.tmp 89) (.tmp 90) 91 zr⟩ := by
      have he : ((opsOf pb4).toList[2]?).map (fun o => (gNone o, o.dst, callOf o)) = some (true, some 91, some (.func 12, [.tmp 89, .tmp 90])) := by kernel_rfl
      cases ho : (opsOf pb4).toList[2]? with
      | none => rw [ho] at he; cases he
      | some o =>
        rw [ho] at he
        simp only [Option.map_some, Option.some.injEq, Prod.mk.injEq] at he
        refine callG_of ho ?_ (parR_ok (W := (w : Bs)) he.2.1 he.2.2 (by decide))
        have h1 := he.1
        unfold gNone at h1
        split at h1
        · assumption
        · cases h1
    have := calls_cust (W := (w : Bs)) (P := Tryd.prog) (G := GE w) (N := 100000) (nt := 106) (id := idC pb4) (ge_ok w) (ops := opsOf pb4) (l := [⟨2, parR (.tmp 89) (.tmp 90) 91 zr⟩]) (by intro d hd; rw [List.mem_singleton] at hd; rw [hd]; exact hk) (by simp)
    have hr : pb4 = .region (idC pb4) (opsC pb4) false := by kernel_rfl
    rw [opsOf_opsC, ← hr] at this
    rw [opsOf_opsC]
    exact this
theorem goes_any {out : SL} {K : Option Addr → Nat → RG} (h : ∀ a k, GoesOn out (K a k)) : GoesOn out (.any K) := ⟨fun a k => (h a k).h⟩
theorem goes_leaf {out : SL} {vc : SB} {m : Mem} {g : Gh} (hvc : vc.val = true) (ho : ∀ p ∈ out, Sx.look out p.1 = some p.2 ∧ p.2 ≠ .un ∧ ∀ f f' : Nat → Nat, p.2.den f = p.2.den f') : GoesOn out (.leaf .nrm vc out m g) := ⟨⟨hvc, rfl, fun p hp => ⟨p.2, ho p hp⟩⟩⟩
theorem byt3 {u : Nat} (hu : u < 256) {r : Int × Int × Bool} (h : Rng r) : BytL [(u : Int), r.1, r.2.1] := byt_cons (by omega) (byt_cons h.1 (byt_cons h.2 byt_e))
theorem tk_len {v : Nat} {x y : Int} {L : Nat} (h : L = 1 ∨ L = 2 ∨ L = 3) : (tk v x y L).length = L := by
  rcases h with rfl | rfl | rfl <;> rfl
theorem fs_hg (w : World) (l : List Int) : HGOk (w : Bs) Tryd.prog 106 (.cust (FS l)) eq4 := by
  have e : HGOk (w : Bs) Tryd.prog 106 (.cust (FS l)) eq4 = CustOk (w : Bs) Tryd.prog 106 eq4 (FS l) := by kernel_rfl
  rw [e]
  exact fs_ok rfl l
theorem f4_ok {W : Bs} (hT : Tabs W.W) (hpin : W.pin = none) : CustOk W Tryd.prog 106 in4 F4 := by
  intro s m g f a w hgood h
  unfold F4 at hgood ⊢
  split at hgood <;> try exact hgood.elim
  rename_i q hS
  have hz : q.z.size ≤ 1000000 := of_decide_eq_true hgood
  have hTw : Tabs w := hT.old h.old
  have hs : ∀ y ∈ S4 q, ∃ v', Sx.look s y.1 = some v' ∧ v' ≠ .un ∧ v'.den f = y.2.den f := by
    intro y hy
    obtain ⟨h3, h4, _⟩ := keep4_mem hS y hy
    exact ⟨y.2, h3, h4, rfl⟩
  have hsame := scan_same (k := q.d.val == 2) (s := q.z) 256 (Nat.le_refl _)
  cases hr : scanR (q.d.val == 2) q.z 256 with
  | none =>
    rw [hr] at hsame
    have h1 : yes (OkP q.d.val q.z none) = true := yes_of ⟨⟨trivial, hz, trivial⟩, hsame⟩
    have h2 : yes (Ok12 q.d.val q.z none) = true := yes_of ⟨hz, by rw [hr]; rfl⟩
    have hrow : RowZ w none 0 0 [] := ⟨Nat.le_refl _, Nat.zero_le _, fun _ => rfl, rfl, .inl rfl, fun j z hj => by simp at hj⟩
    have hx := xB_no w q
    rw [h1, h2, Bool.true_and, Bool.true_and] at hx
    have hgo : GoesOn (S4 q) (xB w none none .plain q) := goesE hx hrow hrow byt_e
    unfold xB at hgo
    exact shift_on (t := tB w none none .plain) (c := in4) (N := 100000) hpin h hs (ge_ok w) (hB_ok hTw none none trivial) hgo
  | some u =>
    have hu := scanR_lt (Nat.le_refl _) hr
    rw [hr] at hsame
    have hL := lens (q.d.val == 2) u hu
    have hR := opR_rng q.z ((tabK (q.d.val == 2) u).1 : Int)
    have h1 : yes (OkP q.d.val q.z (some (lstR (q.d.val == 2) q.z u))) = true := yes_of ⟨⟨trivial, hz, trivial⟩, hsame⟩
    have h2 : yes (Ok12 q.d.val q.z (some ((tabK (q.d.val == 2) u).1, [(u : Int), (opR q.z ((tabK (q.d.val == 2) u).1 : Int)).1, (opR q.z ((tabK (q.d.val == 2) u).1 : Int)).2.1]))) = true := yes_of ⟨hz, by rw [hr]; rfl⟩
    have hlen : (lstR (q.d.val == 2) q.z u).length = (tabK (q.d.val == 2) u).1 := tk_len hL
    have hgo : GoesOn (S4 q) (xB w (some (lstR (q.d.val == 2) q.z u)) (some ((tabK (q.d.val == 2) u).1, [(u : Int), (opR q.z ((tabK (q.d.val == 2) u).1 : Int)).1, (opR q.z ((tabK (q.d.val == 2) u).1 : Int)).2.1])) (.cust (FS [(u : Int), (opR q.z ((tabK (q.d.val == 2) u).1 : Int)).1, (opR q.z ((tabK (q.d.val == 2) u).1 : Int)).2.1])) q) := by
      rw [xB_yes]
      refine goes_any fun b k => goes_any fun b' _ => goes_leaf ?_ ?_
      · have h3 : yes (OkS [(u : Int), (opR q.z ((tabK (q.d.val == 2) u).1 : Int)).1, (opR q.z ((tabK (q.d.val == 2) u).1 : Int)).2.1] b (lstR (q.d.val == 2) q.z u).length k (tabK (q.d.val == 2) u).1 3 b' 0 0 ⟨5, 1, b, (lstR (q.d.val == 2) q.z u).length, k, zs (lstR (q.d.val == 2) q.z u)⟩ ⟨5, 1, b', 3, 3, zs [(u : Int), (opR q.z ((tabK (q.d.val == 2) u).1 : Int)).1, (opR q.z ((tabK (q.d.val == 2) u).1 : Int)).2.1]⟩) = true := by
          refine yes_of ⟨rfl, rfl, hlen.symm, rfl, by omega, ⟨rfl, rfl, rfl, rfl, rfl, ?_⟩, ⟨rfl, rfl, rfl, rfl, rfl, rfl⟩, byt3 hu hR⟩
          rw [hlen]
          rfl
        rw [SB.val_sym, h1, h2, h3]
        rfl
      · exact looks_get rfl
    unfold xB at hgo
    exact shift_on (t := tB w _ _ _) (c := in4) (N := 100000) hpin h hs (ge_ok w) (hB_ok hTw _ _ (fs_hg w _)) hgo
/-! ### The law -/
def cc (chip : Int) : Int := gadd .i64 1 (IntKind.i64.wrap ((IntKind.u64.wrap chip).tmod (IntKind.u64.wrap 2)))
def tT (chip op x y : Int) : ByteArray := (fmtR (cc chip == 2) 3 fun j => [op, x, y].getD j 0).1
def pk (n at' : Int) : Int := IntKind.i64.wrap ((IntKind.u64.wrap at').tmod (IntKind.u64.wrap (gadd .i64 n 1)))
def mk (n at' : Int) : Int := gmin (gadd .i64 (pk n at') 1) n
def uU (t : ByteArray) (at' by' : Int) : ByteArray := catB (catB (t.extract 0 (pk t.size at').toNat) (strB [by'])) (t.extract (mk t.size at').toNat t.size)
def v1 (t : ByteArray) : Bool := !decide (IntKind.u64.wrap (gadd .i64 (t.size : Int) 1) = 0)
def v2 (t : ByteArray) (at' by' : Int) : Bool := (decide (0 ≤ pk t.size at') && decide (pk t.size at' ≤ (t.size : Int))) && (decide ((((t.extract 0 (pk t.size at').toNat).size + (strB [by']).size : Nat) : Int) ≤ 9223372036854775807) && ((decide (0 ≤ mk t.size at') && decide (mk t.size at' ≤ (t.size : Int))) && decide ((((catB (t.extract 0 (pk t.size at').toNat) (strB [by'])).size + (t.extract (mk t.size at').toNat t.size).size : Nat) : Int) ≤ 9223372036854775807)))
def d2 (s : ByteArray) : Bool := decide (s.size ≤ 1000000) && decide (s.size ≤ 1000000)
def v4 (chip : Int) (s : ByteArray) (op x y at' by' : Int) : Bool := (bytB [op, x, y] && true) && (v1 (tT chip op x y) && (v2 (tT chip op x y) at' by' && (decide ((((tT chip op x y).size + s.size : Nat) : Int) ≤ 9223372036854775807) && (d2 s && (d2 (tT chip op x y) && (d2 (uU (tT chip op x y) at' by') && d2 (catB (tT chip op x y) s)))))))
theorem x4_eq (W : World) (chip : Int) (s : ByteArray) (op x y at' by' : Int) : x4 W chip s op x y at' by' = .br (decide (40 < (s.size : Int))) (.leaf .ret (.lit true) [(14, .one (.bool (.lit true)))] ⟨[], [], 2⟩ []) (.leaf .ret (.sym (v4 chip s op x y at' by')) [(14, .one (.bool (.lit true)))] ⟨[], [], 2⟩ []) := by kernel_rfl
theorem tI_ok {W : World} (hT : Tabs W) : HGOk (W : Bs) Tryd.prog 106 tI ib4 := by
  have e : HGOk (W : Bs) Tryd.prog 106 tI ib4 = (True ∧ True ∧ (True ∧ CustOk (W : Bs) Tryd.prog 106 in4 F4) ∧ True) := by kernel_rfl
  rw [e]
  exact ⟨trivial, trivial, ⟨trivial, f4_ok (W := (W : Bs)) hT rfl⟩, trivial⟩
theorem tO_ok {W : World} (hT : Tabs W) : HGOk (W : Bs) Tryd.prog 106 (tO W) ob4 := by
  have e : HGOk (W : Bs) Tryd.prog 106 (tO W) ob4 = (True ∧ True ∧ (True ∧ True ∧ CustOk (W : Bs) Tryd.prog 106 (.loop ib4) (loopU Tryd.prog W (G4 W) 100000 106 tI ib4 3)) ∧ True) := by kernel_rfl
  rw [e]
  exact ⟨trivial, trivial, ⟨trivial, trivial, loopU_ok (W := (W : Bs)) (g4_ok hT) (tI_ok hT) 3⟩, trivial⟩
theorem t4_ok {W : World} (hT : Tabs W) : HGOk (W : Bs) Tryd.prog 106 (t4 W) (bodyOf Tryd.f4) := by
  have e : HGOk (W : Bs) Tryd.prog 106 (t4 W) (bodyOf Tryd.f4) = (True ∧ True ∧ True ∧ True ∧ True ∧ True ∧ (True ∧ CustOk (W : Bs) Tryd.prog 106 (.loop ob4) (loopU Tryd.prog W (G4 W) 100000 106 (tO W) ob4 5)) ∧ True) := by kernel_rfl
  rw [e]
  exact ⟨trivial, trivial, trivial, trivial, trivial, trivial, ⟨trivial, loopU_ok (W := (W : Bs)) (g4_ok hT) (tO_ok hT) 5⟩, trivial⟩
theorem cat_size (a b : ByteArray) : (catB a b).size = a.size + b.size := by
  rw [← ba_len, ← ba_len, ← ba_len]
  unfold catB
  simp
theorem one_size (b : Int) : (strB [b]).size = 1 := rfl
theorem fmt3x {k : Bool} {v : Nat} (hv : v < 256) {x y : Int} : (fmtR k 3 fun j => [(v : Int), x, y].getD j 0).1 = txt (tabK k v).1 (tabK k v).2 x y := by
  unfold fmtR
  have hL := lens k v hv
  show (match Nat.blt 3 (tabK k (v : Int).toNat).1 with | true => (strB [], (0 : Int), (1 : Int)) | false => (txt (tabK k (v : Int).toNat).1 (tabK k (v : Int).toNat).2 x y, ((tabK k (v : Int).toNat).1 : Int), 0)).1 = _
  rw [Int.toNat_natCast]
  have : Nat.blt 3 (tabK k v).1 = false := by
    rcases hL with h | h | h <;> rw [h] <;> rfl
  rw [this]
theorem v4_ok {chip : Int} {s : ByteArray} {op x y at' by' : Int} (hs : s.size ≤ 40) (ho : 0 ≤ op ∧ op ≤ 255) (hx : 0 ≤ x ∧ x ≤ 255) (hy : 0 ≤ y ∧ y ≤ 255) : v4 chip s op x y at' by' = true := by
  obtain ⟨v, rfl⟩ : ∃ v : Nat, op = v := ⟨op.toNat, by omega⟩
  have hv : v < 256 := by omega
  have ht : (tT chip v x y).size ≤ 106 := by
    unfold tT
    rw [fmt3x hv]
    exact (txt_size (k := cc chip == 2) hv x y).1
  have hB : bytB [(v : Int), x, y] = true := by
    unfold bytB
    simp only [List.all_cons, List.all_nil, decide_eq_true ho.1, decide_eq_true ho.2, decide_eq_true hx.1, decide_eq_true hx.2, decide_eq_true hy.1, decide_eq_true hy.2, Bool.and_self]
  unfold v4
  rw [hB]
  generalize tT chip v x y = t at *
  have hga : gadd .i64 (t.size : Int) 1 = (t.size : Int) + 1 := by
    unfold gadd
    rw [IntKind.wrap_i64]
    omega
  have hp : 0 ≤ pk t.size at' ∧ pk t.size at' < (t.size : Int) + 1 := by
    unfold pk
    rw [hga]
    exact place_range at' ((t.size : Int) + 1) (by omega) (by omega)
  have hg2 : gadd .i64 (pk t.size at') 1 = pk t.size at' + 1 := by
    unfold gadd
    rw [IntKind.wrap_i64]
    omega
  have hm : 0 ≤ mk t.size at' ∧ mk t.size at' ≤ (t.size : Int) := by
    unfold mk gmin
    rw [hg2]
    split <;> omega
  have h1 : v1 t = true := by
    unfold v1
    rw [hga]
    have : IntKind.u64.wrap ((t.size : Int) + 1) = (t.size : Int) + 1 := by
      have h : IntKind.u64.wrap ((t.size : Int) + 1) = ((t.size : Int) + 1) % 18446744073709551616 := by simp [IntKind.wrap, IntKind.bits, IntKind.signed]
      rw [h]
      omega
    rw [this, decide_eq_false (by omega)]
    rfl
  have e1 : (t.extract 0 (pk t.size at').toNat).size ≤ 106 := by rw [ByteArray.size_extract]; omega
  have e2 : (t.extract (mk t.size at').toNat t.size).size ≤ 106 := by rw [ByteArray.size_extract]; omega
  have h2 : v2 t at' by' = true := by
    unfold v2
    rw [decide_eq_true hp.1, decide_eq_true (show pk t.size at' ≤ (t.size : Int) by omega), decide_eq_true hm.1, decide_eq_true hm.2, cat_size, one_size, decide_eq_true (by omega), decide_eq_true (by omega)]
    rfl
  have h3 : ∀ z : ByteArray, z.size ≤ 1000000 → d2 z = true := by
    intro z hz
    unfold d2
    rw [decide_eq_true hz]
    rfl
  rw [h1, h2, decide_eq_true (by omega), h3 s (by omega), h3 t (by omega), h3 (uU t at' by') (by unfold uU; rw [cat_size, cat_size, one_size]; omega), h3 (catB t s) (by rw [cat_size]; omega)]
  rfl
theorem law {W : World} (hT : Tabs W) {chip : Int} {s : ByteArray} {op x y at' by' : Int} (ho : 0 ≤ op ∧ op ≤ 255) (hx : 0 ≤ x ∧ x ≤ 255) (hy : 0 ≤ y ∧ y ≤ 255) : Calls Tryd.prog 4 #[.int .i64 chip, .string s, .int .u8 op, .int .u8 x, .int .u8 y, .int .i64 at', .int .u8 by'] W fun en w' => en = .returned (.bool true) ∧ Below W.heap.size W w' := by
  have hcalls := calls_of_runG (g4_ok hT) (n := 100000) (g := 4) Tryd.func4 (show Tryd.f4.body = some (bodyOf Tryd.f4) by kernel_rfl) (t := t4 W) (args := [.one (.int .i64 (.sym chip)), .one (.str s), .one (.int .u8 (.sym op)), .one (.int .u8 (.sym x)), .one (.int .u8 (.sym y)), .one (.int .i64 (.sym at')), .one (.int .u8 (.sym by'))]) ?_ (by rw [show Tryd.f4.ntmps = 106 by kernel_rfl]; simp)
    (R := fun v _ => v = .one (.bool (.lit true))) (N := 2) (ks := []) (bs := []) (ke := [(14, false)]) (be := []) rfl rfl ?_
  · refine hcalls.mono ?_
    rintro en w' ⟨v, g, f, rfl, rfl, _, hb⟩
    exact ⟨rfl, hb⟩
  · rw [show Tryd.f4.ntmps = 106 by kernel_rfl]
    exact t4_ok hT
  · have hx4 := x4_eq W chip s op x y at' by'
    unfold x4 at hx4
    rw [show Tryd.f4.ntmps = 106 by kernel_rfl, hx4]
    refine ⟨fun _ => ⟨rfl, .inr rfl, [(false, [.bool (.lit true)])], _, by kernel_rfl, rfl, rfl⟩, fun h => ⟨?_, .inr rfl, [(false, [.bool (.lit true)])], _, by kernel_rfl, rfl, rfl⟩⟩
    have h := of_decide_eq_false h
    rw [SB.val_sym]
    exact v4_ok (by omega) ho hx hy
theorem ok_int {W : World} {r : Reach} {base : Nat} {t : TypeId} {k : IntKind} {v : Value} (ht : Tryd.prog.underlying t = some (.int k)) (h : Value.okWide Tryd.prog W r base t v) : ∃ n, v = .int k n ∧ k.min ≤ n ∧ n ≤ k.max := by
  have hf : (CSh.int k).fits Tryd.prog t = true := by
    unfold CSh.fits
    rw [ht]
    exact decide_eq_true rfl
  have h' : Cell.okWide Tryd.prog W r base t v := by
    unfold Value.okWide at h
    rw [ht] at h
    exact h
  rcases cell_one hf h' with ⟨k', n, h1 | h1, h2, h3, h4⟩ | ⟨b, h1 | h1, h2⟩
  · cases h1
    exact ⟨n, h2, h3, h4⟩
  · cases h1
  · cases h1
  · cases h1
theorem ok_str {W : World} {r : Reach} {base : Nat} {t : TypeId} {v : Value} (ht : Tryd.prog.underlying t = some .string) (h : Value.okWide Tryd.prog W r base t v) : ∃ s, v = .string s := by
  unfold Value.okWide Cell.okWide Cell.ok at h
  rw [ht] at h
  cases v <;> try exact h.elim
  exact ⟨_, rfl⟩
theorem und3 : Tryd.prog.underlying 3 = some (.int .i64) := by kernel_rfl
theorem par4 : Tryd.f4.params.toList = [3, 9, 5, 5, 5, 3, 5] := by kernel_rfl
theorem walkP {W : World} (hT : Tabs W) (base : Nat) (args : Array Value) (hval : ∀ (j : Nat) t v, Tryd.f4.params.toList[j]? = some t → args.toList[j]? = some v → Value.okWide Tryd.prog W .any base t v) (hlen : args.toList.length = Tryd.f4.params.toList.length) :
    Calls Tryd.prog 4 args W fun e W' => e = .returned (.bool true) ∧ Below W.heap.size W W' := by
  rw [par4] at hval hlen
  match hd : args.toList, hlen with
  | [a0, a1, a2, a3, a4, a5, a6], _ =>
    have he : args = #[a0, a1, a2, a3, a4, a5, a6] := by
      apply Array.ext'
      rw [hd]
    rw [hd] at hval
    obtain ⟨n0, rfl, _⟩ := ok_int und3 (hval 0 3 a0 rfl rfl)
    obtain ⟨s, rfl⟩ := ok_str und9 (hval 1 9 a1 rfl rfl)
    obtain ⟨n2, rfl, h2, h2'⟩ := ok_int und5 (hval 2 5 a2 rfl rfl)
    obtain ⟨n3, rfl, h3, h3'⟩ := ok_int und5 (hval 3 5 a3 rfl rfl)
    obtain ⟨n4, rfl, h4, h4'⟩ := ok_int und5 (hval 4 5 a4 rfl rfl)
    obtain ⟨n5, rfl, _⟩ := ok_int und3 (hval 5 3 a5 rfl rfl)
    obtain ⟨n6, rfl, _⟩ := ok_int und5 (hval 6 5 a6 rfl rfl)
    subst he
    exact law hT ⟨h2, h2'⟩ ⟨h3, h3'⟩ ⟨h4, h4'⟩
theorem lifted (os : Os) (started : os.Started) (H : Type) (enc : TypeId × Value → H) :
    ReturnsInHanded {} Tryd.checked os 4 .any (fun w args => (Rows.listingParsesSpec.pre enc Tryd.prog Tryd.f4 [] false w args ∧ laidMetH Tryd.prog laidL w) ∧ sizedMet enc Tryd.prog Tryd.f4 (OpenSpec.ofChange Rows.listingParsesSpec) false w args) (Rows.listingParsesSpec.post enc Tryd.prog Tryd.f4 false true false false) :=
  law_stepL (C := Tryd.checked) (X := fun w => laidMetH Tryd.prog laidL w) (fun _ _ hh h => h.of_heap hh) 7 own started (by kernel_rfl) Tryd.func4 (by kernel_rfl) (by kernel_rfl) rfl
    (fun ds hd => by
      match ds, hd with
      | [d0, d1, d2, d3, d4, d5, d6], _ => rfl)
    (ChangeSpec.witness_shaped (enc := enc) (C := Tryd.checked) (os := os) (X := fun w _ => laidMetH Tryd.prog laidL w) false (World.laidAll Tryd.prog os laidL) #[.int .i64 0, .string ⟨#[]⟩, .int .u8 0, .int .u8 0, .int .u8 0, .int .i64 0, .int .u8 0] 8 (World.laidAll_os _ _ _)
      (World.shaped_of_ZipB (by kernel_rfl) (by kernel_rfl)) (by kernel_rfl) (by kernel_rfl) (by kernel_rfl) (laid_met os _))
    (fun W base args hX hv hl _ _ _ => walkP (tabs_of hX) base args hv hl)
theorem over : Rows.listingParsesRow.holds Tryd.pinned (OpenSpec.ofChange Rows.listingParsesSpec) :=
  OpenClaim.holds_of_wide 4 Tryd.f4 rfl rfl rfl rfl rfl rfl rfl ⟨rfl, rfl, rfl, rfl, rfl⟩ rfl rfl rfl rfl rfl (by kernel_rfl) Tryd.func4 (by kernel_rfl)
    (of_decide_eq_true (by kernel_rfl)) (by unfold Func.isWrapper; first | (rw [if_pos (by decide +kernel)]; kernel_rfl) | (rw [if_neg (by decide +kernel)]; exact ⟨rfl, rfl⟩))
    (fun os started H enc _ => lifted os started H enc)
theorem proved : Rows.ListingParsesCardSaid :=
  Claim7.holds_tied_plain_at .later [] [.data, .pinned] true (true, "5a16254ff44ab90f7cd9a716dfd463f6c71280108dac93345729763970746f0c") false over (fun _ h => by cases h) (by kernel_rfl) (fun _ h => by cases h) listingParses_row_tie rfl ⟨rfl, rfl⟩ (by kernel_rfl) rfl
    (fun f fn hf hfn => by
      obtain rfl : f = 4 := Option.some.inj ((show Tryd.prog.funcNamed "tstate/tstatelaw11.ListingParses" = some 4 by kernel_rfl).symm.trans hf) |>.symm
      obtain rfl : fn = Tryd.f4 := (Option.some.inj (Tryd.func4.symm.trans hfn)).symm
      exact ⟨by kernel_rfl, fun j t ht => by
        rw [Tryd.params4] at ht
        have hm : t ∈ [3, 9, 5, 5, 5, 3, 5] := by simpa using Array.mem_of_getElem? ht
        have hall : ([3, 9, 5, 5, 5, 3, 5].all fun u => !Tryd.prog.wantsStandIn u) = true := by kernel_rfl
        exact (show Tryd.prog.wantsStandIn t = false by simpa using List.all_eq_true.1 hall t hm)⟩)
    (by kernel_rfl)
#print axioms proved
end Go.Proofs.YtdglgiaegjkinaaDoor.listingParses
