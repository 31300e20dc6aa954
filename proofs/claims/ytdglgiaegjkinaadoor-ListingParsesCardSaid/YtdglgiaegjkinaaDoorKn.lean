/- The rest of a function, told out of the world as it is there. (Several texts in one.) -/
import Derived.Test.YtdglgiaegjkinaaDoorPb
import Derived.Test.YtdglgiaegjkinaaDoorPl
namespace Go.Proofs.YtdglgiaegjkinaaDoor
open Go Go.Sx Go.RowKit
set_option maxRecDepth 100000
/-- A tree all of whose leaves return 'B' in the slot 'd'. -/
structure RetIs (d : Nat) (B : Bool) (r : RG) : Prop where
  h : r.All fun e vc s2 _ _ => vc.val = true ∧ (e = .ret ∧ ∃ b, Sx.look s2 d = some (.one (.bool b)) ∧ b.val = B)
theorem shift_wp {W : Bs} (hpin : W.pin = none) {P : Program} {nt : Nat} {s : SL} {m : Mem} {g : Gh} {f : Nat → Nat} {a : Act} {w : World} (h : GSt W nt s m g f a w) {c : Code} {s' : SL} (hs : ∀ p ∈ s', ∃ v', Sx.look s p.1 = some v' ∧ v' ≠ .un ∧ v'.den f = p.2.den f)
    {G : List (Nat × Sx.Spec)} (hG : GOk w P G) {t : HG} (ht : HGOk (w : Bs) P nt t c) {N d : Nat} {B : Bool} {vc : SB}
    (hall : RetIs d B (runG P w G N nt t c s' ⟨[], [], 0⟩ [])) :
    c.wp P (GPost W nt (.leaf .ret vc [(d, .one (.bool (.sym B)))] ⟨[], [], m.next⟩ [])) a w := by
  have hst : GSt (w : Bs) nt s' ⟨[], [], 0⟩ [] f a w := by
    refine ⟨h.size, h.defers, ?_, ?_, fun b j hj => by simp [Sx.look] at hj, ⟨rfl, rfl, rfl, Nat.le_refl _, fun _ _ _ => rfl, (Old.refl w).base⟩, fun i hi => (by cases hi), ?_, ?_, ?_⟩
    · intro k v hv hne
      obtain ⟨v', h1, h2, h3⟩ := hs (k, v) (mem_of_look hv)
      rw [h.slots k v' h1 h2, h3]
    · refine ⟨?_, ?_, ?_, ?_, ?_, ?_⟩ <;> intro b <;> simp [Sx.look, Mem.get, findC]
    · intro q o ho; simp at ho
    · intro q o ho; simp at ho
    · intro q q' o p ho; simp at ho
  have hgd := RG.All.good (fun _ _ _ _ _ h => h.1) hall.h
  refine wp_mono (runG_sound (W := (w : Bs)) hG t c _ _ _ f a w ht hgd hst) ?_
  intro e a1 w1 hp
  obtain ⟨ex, vc2, s2, m2, g2, ⟨_, rfl, b, hb, hB⟩, hex, f2, hst2⟩ := RG.All.meet hall.h hp
  refine ⟨hex, f2, ?_⟩
  refine ⟨hst2.size, hst2.defers, ?_, ?_, fun b j hj => by simp [Sx.look] at hj, ?_, fun i hi => (by rw [hpin] at hi; cases hi), ?_, ?_, ?_⟩
  · intro k v hv hne
    simp only [Sx.look] at hv
    split at hv
    · rename_i hk
      simp only [Option.some.injEq] at hv
      subst hv
      have : d = k := by first | exact hk | (rw [Nat.beq_eq] at hk; exact hk)
      subst this
      rw [hst2.slots d _ hb (by simp)]
      show Value.bool b.val = Value.bool B
      rw [hB]
    · simp at hv
  · refine ⟨?_, ?_, ?_, ?_, ?_, ?_⟩ <;> intro b <;> simp [Sx.look, Mem.get, findC]
  · exact ⟨hst2.fr.os.trans h.fr.os, hst2.fr.tape.trans h.fr.tape, hst2.fr.output.trans h.fr.output, Nat.le_trans h.fr.size hst2.fr.size, fun k hk hx => (hst2.fr.same k (Nat.lt_of_lt_of_le hk h.fr.size) (fun h => h)).trans (h.fr.same k hk hx), W.base⟩
  · intro q o ho; simp at ho
  · intro q o ho; simp at ho
  · intro q q' o p ho; simp at ho
def leafR : RG → Option (SB × SL)
  | .leaf .ret vc s _ _ => some (vc, s)
  | _ => none
theorem leafR_all {r : RG} {d : Nat} {vc : SB} {v : Option TV} (h : (leafR r).map (fun p => (p.1, Sx.look p.2 d)) = some (vc, v)) (hvc : vc.val = true) {B : Bool} {b : SB} (hv : v = some (.one (.bool b))) (hB : b.val = B) : RetIs d B r := by
  unfold leafR at h
  split at h
  · simp only [Option.map_some, Option.some.injEq, Prod.mk.injEq] at h
    obtain ⟨rfl, h2⟩ := h
    exact ⟨⟨hvc, rfl, b, by rw [h2, hv], hB⟩⟩
  · cases h
/-- The bytes of a row, as they came in. -/
theorem RowZ.inL {w : World} {a : Option Addr} {n c : Nat} {l : List Int} (h : RowZ w a n c l) : inL w a n = l := by
  have hl := h.len
  apply List.ext_getElem?
  intro j
  unfold Go.Proofs.YtdglgiaegjkinaaDoor.inL
  rw [List.getElem?_map]
  rcases Nat.lt_or_ge j n with h1 | h1
  · rw [List.getElem?_range h1, Option.map_some, (h.rd h1).2, List.getD_eq_getElem?_getD, List.getElem?_eq_getElem (by omega)]
    rfl
  · rw [List.getElem?_eq_none (by simp; omega), List.getElem?_eq_none (by omega)]
    rfl
end Go.Proofs.YtdglgiaegjkinaaDoor

/- The law's fixed example. -/

namespace Go.Proofs.YtdglgiaegjkinaaDoor
open Go Go.Sx Go.RowKit
set_option maxRecDepth 100000
/-- Parse among the operations of a region. -/
structure OkP (c : Int) (s : ByteArray) (z : Option (List Int)) : Prop where
  la : okLA s
  sc : scan (c == 2) s (lastS s) 256 = z
def parV (z : Option (List Int)) (a : Option Addr) (k : Nat) : TV := match z with
  | some l => .tup [(false, [.sl a l.length k]), (false, [.int .i64 (.lit 0)])]
  | none => .tup [(false, [.sl none 0 0]), (false, [.int .i64 (.lit 2)])]
noncomputable def parO (x y : Operand) (d : Nat) (z : Option (List Int)) (s : SL) (m : Mem) (g : Gh) : RG := match evalO (Sx.look s) x, evalO (Sx.look s) y with
  | some (.one (.int .i64 c)), some (.one (.str t)) => match z with
    | some l => .any fun a k => .leaf .nrm (.sym (yes (OkP c.val t (some l)))) (putS (some d) (.tup [(false, [.sl a l.length k]), (false, [.int .i64 (.lit 0)])]) s) m (g ++ [⟨5, 1, a, l.length, k, zs l⟩])
    | none => .leaf .nrm (.sym (yes (OkP c.val t none))) (putS (some d) (.tup [(false, [.sl none 0 0]), (false, [.int .i64 (.lit 2)])]) s) m g
  | _, _ => .fail
theorem named11 : Named 11 := ⟨Tryd.f11, Tryd.func11, by kernel_rfl, by kernel_rfl⟩
theorem parO_ok {W : Bs} (hT : Tabs W.W) {nt d : Nat} {x y : Operand} {o : Oper} {z : Option (List Int)} (hdst : o.dst = some d) (hop : callOf o = some (.func 11, [x, y])) (hd : d < nt) : CallOk W Tryd.prog nt o (parO x y d z) := by
  intro s m g f a w Q hgood h
  unfold parO at hgood ⊢
  split at hgood <;> try exact hgood.elim
  rename_i c t hx hy
  have hl : evalList (Sx.look s) [x, y] = some [.one (.int .i64 c), .one (.str t)] := by
    simp only [evalList, hx, hy]
  cases z with
  | none =>
    obtain ⟨h1, h2⟩ := of_yes (show yes (OkP c.val t none) = true from hgood)
    have hc := par11 (hT.old h.old) c.val h1
    rw [h2] at hc
    refine call_wp hop h.slots rfl hl named11 hc ?_
    rintro en w' ⟨hb, rfl⟩
    refine ⟨_, rfl, rfl, f, ?_⟩
    rw [hdst]
    exact h.call hb hd rfl
  | some l =>
    obtain ⟨h1, h2⟩ := of_yes (show yes (OkP c.val t (some l)) = true from hgood none 0)
    have hc := par11 (hT.old h.old) c.val h1
    rw [h2] at hc
    refine call_wp hop h.slots rfl hl named11 hc ?_
    rintro en w' ⟨hb, b, k, rfl, hown⟩
    refine ⟨_, rfl, b, k, rfl, f, ?_⟩
    rw [hdst]
    exact h.callOwnV hb hd (o := ⟨5, 1, b, l.length, k, zs l⟩) hown rfl
def jnk : ByteArray := { data := #[106, 110, 107, 32, 48, 120, 48, 48, 49, 48] }
def hitD (k : Bool) (s t : ByteArray) (v : Nat) : Option (List Int) := match bytes11 v (tail11 k t v) with
  | some l => bif decide ((fmtR k l.length fun j => l.getD j 0).1.data.toList = s.data.toList) then some l else none
  | none => none
theorem hit_D (k : Bool) (s t : ByteArray) (v : Nat) : hit k s t v = hitD k s t v := by
  unfold hit hitD
  cases bytes11 v (tail11 k t v) with
  | none => rfl
  | some l =>
    have : ∀ a b : ByteArray, eqT a b = decide (a.data.toList = b.data.toList) := by
      intro a b
      rw [eqT_eq]
      by_cases h : a = b
      · rw [decide_eq_true h, decide_eq_true (by rw [h])]
      · rw [decide_eq_false h, decide_eq_false fun h' => h (ba_eq h')]
    dsimp only
    rw [this]
def scanD (k : Bool) (s t : ByteArray) : Nat → Option (List Int)
  | 0 => none
  | n + 1 => match hitD k s t (255 - n) with
    | some l => some l
    | none => scanD k s t n
theorem scan_D (k : Bool) (s t : ByteArray) : ∀ n, scan k s t n = scanD k s t n
  | 0 => rfl
  | n + 1 => by
    unfold scan scanD
    rw [hit_D, scan_D k s t n]
    cases hitD k s t (255 - n) <;> rfl
theorem jnk_scan : OkP 2 jnk (some [221, 16, 0]) := by
  refine ⟨⟨trivial, by decide, trivial⟩, ?_⟩
  rw [scan_D]
  kernel_rfl
/-! ### The function itself -/
noncomputable def bodyOf (f : Func) : Code := match f.body with
  | some c => c
  | none => .skip
noncomputable def par9 : Code := match bodyOf Tryd.f9 with
  | .seq _ (.seq _ (.seq c _)) => c
  | _ => .skip
noncomputable def end9 : Code := match bodyOf Tryd.f9 with
  | .seq _ (.seq _ (.seq _ c)) => c
  | _ => .skip
def lda0 : ByteArray := { data := #[108, 100, 97, 32, 48, 120, 49, 50, 51, 52] }
structure Ok9 (t : ByteArray) (n e q : Int) (o : Sx.Own) (a : Option Addr) (k : Nat) : Prop where
  t : t = lda0
  n : n = 3
  e : e = 0
  q : q = 0
  o : OkZ o a 3 k [221, 16, 0]
noncomputable def F9 (s : SL) (m : Mem) (g : Gh) : RG := match Sx.look s 1, Sx.look s 2, Sx.look s 3, Sx.look s 4, Sx.look s 5, g[0]? with
  | some (.one (.str t)), some (.one (.int .i64 n)), some (.one (.int .i64 e)), some (.one (.sl a 3 k)), some (.one (.int .i64 q)), some o => .leaf .ret (.sym (yes (Ok9 t n.val e.val q.val o a k))) [(0, .one (.bool (.sym true)))] ⟨[], [], m.next⟩ []
  | _, _, _, _, _, _ => .fail
noncomputable def G9 (W : World) : List (Nat × Sx.Spec) := [(13, spec13 W), (7, specFmt W)]
theorem named7' : Named 7 := ⟨Tryd.f7, Tryd.func7, by kernel_rfl, by kernel_rfl⟩
theorem named8 : Named 8 := ⟨Tryd.f8, Tryd.func8, by kernel_rfl, by kernel_rfl⟩
theorem g9_ok (W : World) : GOk W Tryd.prog (G9 W) := gok_cons (spec13_ok W) (gok_cons (fmt_spec named7' fmt7 W) (gok_nil W))
def S9 (a : Option Addr) (k : Nat) : SL := [(1, .one (.str lda0)), (2, .one (.int .i64 (.lit 3))), (3, .one (.int .i64 (.lit 0))), (4, .one (.sl a 3 k)), (5, .one (.int .i64 (.lit 0)))]
noncomputable def e9 (W : World) (a : Option Addr) (k : Nat) : RG := (runG Tryd.prog W (G9 W) 100000 35 .plain end9 (S9 a k) ⟨[], [], 0⟩ [])
theorem e9_leaf (W : World) (a : Option Addr) (k : Nat) : (leafR (e9 W a k)).map (fun p => (p.1, Sx.look p.2 0)) = some (.sym (yes (RowOk W .u8 a 3 k ∧ (a = none ∨ okA a = true)) && true), some (.one (.bool (.sym (decide (inL W a 3 = [221, 16, 0])))))) := by kernel_rfl
theorem leaf9 (w : World) (a : Option Addr) (k : Nat) (h1 : (SB.sym (yes (RowOk w .u8 a 3 k ∧ (a = none ∨ okA a = true)) && true)).val = true) (h2 : (SB.sym (decide (inL w a 3 = [221, 16, 0]))).val = true) :
    RetIs 0 true (runG Tryd.prog w (G9 w) 100000 35 .plain end9 (S9 a k) ⟨[], [], 0⟩ []) :=
  leafR_all (d := 0) (e9_leaf w a k) h1 rfl h2
theorem bytK : BytL [221, 16, 0] := bytB_ok (by decide)
theorem f9_ok {W : Bs} (hpin : W.pin = none) : CustOk W Tryd.prog 35 end9 F9 := by
  intro s m g f a w hgood h
  unfold F9 at hgood ⊢
  split at hgood <;> try exact hgood.elim
  rename_i t n e q k z o h1 h2 h3 h4 h5 h6
  obtain ⟨rfl, e2, e3, e4, ho⟩ := of_yes hgood
  have hr := ho.row (h.gh.own 0 o h6)
  refine shift_wp hpin h (s' := S9 q k) ?_ (g9_ok w) (t := .plain) trivial (N := 100000) ?_
  · intro p hp
    simp only [S9, List.mem_cons, List.not_mem_nil, or_false] at hp
    rcases hp with rfl | rfl | rfl | rfl | rfl
    · exact ⟨_, h1, by simp, rfl⟩
    · exact ⟨_, h2, by simp, by show Value.int .i64 n.val = .int .i64 3; rw [e2]⟩
    · exact ⟨_, h3, by simp, by show Value.int .i64 e.val = .int .i64 0; rw [e3]⟩
    · exact ⟨_, h4, by simp, rfl⟩
    · exact ⟨_, h5, by simp, by show Value.int .i64 z.val = .int .i64 0; rw [e4]⟩
  · have hy : yes (RowOk w .u8 q 3 k ∧ (q = none ∨ okA q = true)) = true := yes_of ⟨hr.row bytK, hr.flat⟩
    have hl : inL w q 3 = [221, 16, 0] := hr.inL
    have hv1 : (SB.sym (yes (RowOk w .u8 q 3 k ∧ (q = none ∨ okA q = true)) && true)).val = true := by rw [SB.val_sym, hy]; rfl
    have hv2 : (SB.sym (decide (inL w q 3 = [221, 16, 0]))).val = true := by rw [SB.val_sym, hl]; rfl
    exact leaf9 w q k hv1 hv2
noncomputable def pk9 : CS := ⟨0, parO (.const (.int .i64 2)) (.const (.string jnk)) 13 (some [221, 16, 0])⟩
noncomputable def t9 (W : World) : HG := .seq .plain (.seq .plain (.seq (.cust (runCalls Tryd.prog W (G9 W) 100000 35 (opsOf par9) [pk9] 0)) (.cust F9)))
noncomputable def x9 (W : World) : RG := (runG Tryd.prog W (G9 W) 100000 35 (t9 W) (bodyOf Tryd.f9) (argSlots 0 []) noMem []).slim 1 [] [] [(0, false)] []
def r9 : ByteArray × Int × Int := fmtR true 3 fun j => [(58 : Int), 52, 18].getD j 0
theorem x9_eq (W : World) : x9 W = .any fun a k => .leaf .ret (.sym (yes (OkP 2 jnk (some [221, 16, 0])) && yes (Ok9 (fmtR (1 == 2) 3 fun j => [(58 : Int), 52, 18].getD j 0).1 (fmtR (1 == 2) 3 fun j => [(58 : Int), 52, 18].getD j 0).2.1 (fmtR (1 == 2) 3 fun j => [(58 : Int), 52, 18].getD j 0).2.2 0 ⟨5, 1, a, 3, k, zs [221, 16, 0]⟩ a k)))
    [(0, .one (.bool (.sym true)))] ⟨[], [], 1⟩ [] := by kernel_rfl
theorem fmt9 : (fmtR (1 == 2) 3 fun j => [(58 : Int), 52, 18].getD j 0) = (lda0, 3, 0) := by kernel_rfl
theorem p9r : par9 = .region (idC par9) (opsC par9) false := by kernel_rfl
theorem opsOf_opsC (c : Code) : opsOf c = opsC c := by cases c <;> rfl
theorem p9o : ((opsOf par9).toList[0]?).map (fun o => (gNone o, o.dst, callOf o)) = some (true, some 13, some (.func 11, [.const (.int .i64 2), .const (.string jnk)])) := by kernel_rfl
theorem known9 {W : World} (hT : Tabs W) : Calls Tryd.prog 9 #[] W fun en w' => en = .returned (.bool true) ∧ Below W.heap.size W w' := by
  have hcalls := calls_of_runG (g9_ok W) (n := 100000) (g := 9) Tryd.func9 (show Tryd.f9.body = some (bodyOf Tryd.f9) by kernel_rfl) (t := t9 W) (args := []) ?_ (by rw [show Tryd.f9.ntmps = 35 by kernel_rfl]; simp)
    (R := fun v _ => v = .one (.bool (.sym true))) (N := 1) (ks := []) (bs := []) (ke := [(0, false)]) (be := []) rfl rfl ?_
  · refine hcalls.mono ?_
    rintro en w' ⟨v, g, f, rfl, rfl, _, hb⟩
    exact ⟨rfl, hb⟩
  · have e : HGOk (W : Bs) Tryd.prog Tryd.f9.ntmps (t9 W) (bodyOf Tryd.f9) = (True ∧ True ∧ CustOk (W : Bs) Tryd.prog 35 par9 (runCalls Tryd.prog W (G9 W) 100000 35 (opsOf par9) [pk9] 0) ∧ CustOk (W : Bs) Tryd.prog 35 end9 F9) := by kernel_rfl
    rw [e]
    refine ⟨trivial, trivial, ?_, f9_ok rfl⟩
    have hk : CallGOk (W : Bs) Tryd.prog 35 (opsOf par9) pk9 := by
      have he := p9o
      cases ho : (opsOf par9).toList[0]? with
      | none => rw [ho] at he; cases he
      | some o =>
        rw [ho] at he
        simp only [Option.map_some, Option.some.injEq, Prod.mk.injEq] at he
        refine callG_of ho ?_ (parO_ok (W := (W : Bs)) hT he.2.1 he.2.2 (by decide))
        have h1 := he.1
        unfold gNone at h1
        split at h1
        · assumption
        · cases h1
    have := calls_cust (W := (W : Bs)) (P := Tryd.prog) (G := G9 W) (N := 100000) (nt := 35) (id := idC par9) (g9_ok W) (ops := opsOf par9) (l := [pk9]) (by intro d hd; rw [List.mem_singleton] at hd; rw [hd]; exact hk) (by simp)
    rw [opsOf_opsC, ← p9r] at this
    rw [opsOf_opsC]
    exact this
  · have hx := x9_eq W
    unfold x9 at hx
    rw [show Tryd.f9.ntmps = 35 by kernel_rfl, hx]
    intro a k
    refine ⟨?_, .inr rfl, [(false, [.bool (.sym true)])], _, by kernel_rfl, rfl, rfl⟩
    rw [SB.val_sym, fmt9, yes_of jnk_scan, yes_of (show Ok9 lda0 3 0 0 ⟨5, 1, a, 3, k, zs [221, 16, 0]⟩ a k from ⟨rfl, rfl, rfl, rfl, rfl, rfl, rfl, rfl, rfl, rfl⟩)]
    rfl
def F09 : List TV → Option (SB × TV)
  | [] => some (.lit true, .one (.bool (.lit true)))
  | _ => none
theorem spec9 {W : World} (hT : Tabs W) : SpecOk W Tryd.prog 9 (specV F09) := by
  refine spec_of ⟨Tryd.f9, Tryd.func9, by kernel_rfl, by kernel_rfl⟩ ?_
  intro args c u f w hF hc hW
  unfold F09 at hF
  split at hF <;> try contradiction
  simp only [Option.some.injEq, Prod.mk.injEq] at hF
  obtain ⟨rfl, rfl⟩ := hF
  exact ⟨by simp, known9 (hT.old hW)⟩
end Go.Proofs.YtdglgiaegjkinaaDoor
