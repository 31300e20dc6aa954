/- ListingRoundTrips: the text of an instruction gives the same instruction again, with the least opcode on the 8080. -/
import Derived.Test.YtdglgiaegjkinaaDoorPm
import Derived.Test.YtdglgiaegjkinaaDoorClo
import Derived.Test.YtdglgiaegjkinaaDoorCards
namespace Go.Proofs.YtdglgiaegjkinaaDoor.listingRoundTrips
open Go Go.Sx Go.RowKit Go.ChangeShapes Go.WideShapes Go.ChangeAt Go.Deep
set_option maxRecDepth 100000
noncomputable def par5 : Code := match bodyOf Tryd.f5 with
  | .seq _ (.seq _ (.seq _ (.seq c _))) => c
  | _ => .skip
noncomputable def end5 : Code := match bodyOf Tryd.f5 with
  | .seq _ (.seq _ (.seq _ (.seq _ c))) => c
  | _ => .skip
noncomputable def GL (W : World) : List (Nat × Sx.Spec) := [(7, specFmt W), (13, spec13 W), (9, specV F09), (14, specV F14), (15, specV FDecF)]
theorem gl_ok {W : World} (hT : Tabs W) : GOk W Tryd.prog (GL W) := gok_cons (fmt_spec named7' fmt7 W) (gok_cons (spec13_ok W) (gok_cons (spec9 hT) (gok_cons (spec14 W) (gok_cons (decF15_ok W) (gok_nil W)))))
/-! ### The rest behind Parse, at a chip and a length -/
def S5 (op x y : Int) (s : ByteArray) (c : Int) (L : Nat) (a : Option Addr) (k : Nat) : SL := [(1, .one (.int .u8 (.sym op))), (2, .one (.int .u8 (.sym x))), (3, .one (.int .u8 (.sym y))), (9, .one (.int .i64 (.lit c))), (10, .one (.str s)), (11, .one (.int .i64 (.lit L))), (12, .one (.int .i64 (.lit 0))), (13, .one (.sl a L k)), (14, .one (.int .i64 (.lit 0)))]
noncomputable def e5 (W : World) (op x y : Int) (s : ByteArray) (c : Int) (L : Nat) (a : Option Addr) (k : Nat) : RG := (runG Tryd.prog W (GL W) 100000 109 .plain end5 (S5 op x y s c L a k) ⟨[], [], 0⟩ [])
def rtV (d : Nat) : RG → Option (SB × TV)
  | .br b _ y => match b with
    | false => rtV d y
    | true => none
  | .leaf .ret vc s _ _ => (Sx.look s d).map fun v => (vc, v)
  | _ => none
theorem rtV_all {d : Nat} {vc : SB} {b : SB} {B : Bool} (hvc : vc.val = true) (hB : b.val = B) : ∀ {r : RG}, rtV d r = some (vc, .one (.bool b)) → RetIs d B r
  | .fail, h => by cases h
  | .any _, h => by cases h
  | .pick _ _, h => by cases h
  | .leaf .ret v s _ _, h => by
    unfold rtV at h
    rw [Option.map_eq_some_iff] at h
    obtain ⟨t, h1, h2⟩ := h
    simp only [Prod.mk.injEq] at h2
    obtain ⟨rfl, rfl⟩ := h2
    exact ⟨⟨hvc, rfl, b, h1, hB⟩⟩
  | .leaf .nrm _ _ _ _, h => by cases h
  | .leaf (.exit _) _ _ _ _, h => by cases h
  | .leaf (.res _) _ _ _ _, h => by cases h
  | .br true _ _, h => by cases h
  | .br false _ y, h => by
    have := rtV_all (r := y) hvc hB h
    exact ⟨⟨fun h => (by cases h), fun _ => this.h⟩⟩
def dl (k : Bool) (op : Int) : List Int := [(ins k op.toNat).getD 0 0, lenF k op.toNat, (ins k op.toNat).getD 2 0, (ins k op.toNat).getD 3 0, (ins k op.toNat).getD 4 0, (ins k op.toNat).getD 5 0, (ins k op.toNat).getD 6 0, (ins k op.toNat).getD 7 0]
def en (op : Int) : Int := (((enc (1 == 2) (dl (1 == 2) op) 256).getD 0 : Nat) : Int)
def fm (c : Int) (W : World) (a : Option Addr) (L : Nat) : ByteArray × Int × Int := fmtR (c == 2) L fun j => rdInt W ((a.getD default).add j)
def A1 (W : World) (a : Option Addr) (q : Int) : Bool := decide (rdInt W (atRow a 0 1) = q)
def A2 (W : World) (a : Option Addr) (k L : Nat) (x y : Int) : Bool := decide (inL W (cutA a k 1 1) (L - 1) = List.take (gsub .i64 (L : Int) 1).toNat [x, y])
def A3 (c : Int) (W : World) (a : Option Addr) (L : Nat) (s : ByteArray) : Bool := eqT (fm c W a L).1 s
def A4 (c : Int) (W : World) (a : Option Addr) (L : Nat) : Bool := decide ((fm c W a L).2.1 = (L : Int))
def A5 (c : Int) (W : World) (a : Option Addr) (L : Nat) : Bool := decide ((fm c W a L).2.2 = 0)
def Y5 (W : World) (a : Option Addr) : Bool := bif ((a.isSome && true) && true) then isInt W .u8 (atRow a 0 1) else false
noncomputable def R2 (W : World) (a : Option Addr) (k L : Nat) : Bool := yes (RowOk W .u8 (cutA a k 1 1) (L - 1) (k - 1) ∧ (cutA a k 1 1 = none ∨ okA (cutA a k 1 1) = true))
noncomputable def X5 (W : World) (a : Option Addr) (k L : Nat) (x y : Int) : Bool := bif ((a.isSome && true) && true) then (bif isInt W .u8 (atRow a 0 1) then (bif R2 W a k L then (bytB [x, y] && true) else false) else false) else false
def V5 (c : Int) (q : Int) (W : World) (a : Option Addr) (k L : Nat) (s : ByteArray) (x y : Int) : Bool := bif A1 W a q then bif A2 W a k L x y then bif A3 c W a L s then bif A4 c W a L then A5 c W a L else false else false else false else false
noncomputable def VC (c : Int) (q : Int) (W : World) (a : Option Addr) (k L : Nat) (s : ByteArray) (x y : Int) : Bool := bif yes (RowOk W .u8 a L k) then (bif A1 W a q then bif A2 W a k L x y then bif A3 c W a L s then bif A4 c W a L then bif A5 c W a L then X5 W a k L x y else X5 W a k L x y else X5 W a k L x y else X5 W a k L x y else X5 W a k L x y else Y5 W a) else false
def eok (op : Int) : Bool := (decide (0 ≤ op) && decide (op < 256)) && (enc (1 == 2) (dl (1 == 2) op) 256).isSome
theorem e2_1 (W : World) (op x y : Int) (s : ByteArray) (a : Option Addr) (k : Nat) : rtV 8 (e5 W op x y s 2 1 a k) = some (.sym (VC 2 op W a k 1 s x y), .one (.bool (.sym (V5 2 op W a k 1 s x y)))) := by kernel_rfl
theorem e2_2 (W : World) (op x y : Int) (s : ByteArray) (a : Option Addr) (k : Nat) : rtV 8 (e5 W op x y s 2 2 a k) = some (.sym (VC 2 op W a k 2 s x y), .one (.bool (.sym (V5 2 op W a k 2 s x y)))) := by kernel_rfl
theorem e2_3 (W : World) (op x y : Int) (s : ByteArray) (a : Option Addr) (k : Nat) : rtV 8 (e5 W op x y s 2 3 a k) = some (.sym (VC 2 op W a k 3 s x y), .one (.bool (.sym (V5 2 op W a k 3 s x y)))) := by kernel_rfl
theorem e1_1 (W : World) (op x y : Int) (s : ByteArray) (a : Option Addr) (k : Nat) : rtV 8 (e5 W op x y s 1 1 a k) = some (.sym (eok op && VC 1 (en op) W a k 1 s x y), .one (.bool (.sym (V5 1 (en op) W a k 1 s x y)))) := by kernel_rfl
theorem e1_2 (W : World) (op x y : Int) (s : ByteArray) (a : Option Addr) (k : Nat) : rtV 8 (e5 W op x y s 1 2 a k) = some (.sym (eok op && VC 1 (en op) W a k 2 s x y), .one (.bool (.sym (V5 1 (en op) W a k 2 s x y)))) := by kernel_rfl
theorem e1_3 (W : World) (op x y : Int) (s : ByteArray) (a : Option Addr) (k : Nat) : rtV 8 (e5 W op x y s 1 3 a k) = some (.sym (eok op && VC 1 (en op) W a k 3 s x y), .one (.bool (.sym (V5 1 (en op) W a k 3 s x y)))) := by kernel_rfl
structure Ok5 (c : Int) (L : Nat) (l : List Int) (op x y c' n e q : Int) (t : ByteArray) (o : Sx.Own) (a : Option Addr) (k : Nat) : Prop where
  hc : c' = c
  hn : n = L
  he : e = 0
  hq : q = 0
  ho : OkZ o a L k l
  hb : BytL l
  hx : 0 ≤ x ∧ x ≤ 255
  hy : 0 ≤ y ∧ y ≤ 255
  fm : fmtR (c == 2) L (fun j => l.getD j 0) = (t, (L : Int), 0)
  hd : l.getD 0 0 = bif c == 2 then op else en op
  tl : l.drop 1 = [x, y].take (L - 1)
  ok : c = 1 → eok op = true
noncomputable def F5 (c : Int) (L : Nat) (l : List Int) (s : SL) (m : Mem) (g : Gh) : RG := match Sx.look s 1, Sx.look s 2, Sx.look s 3, Sx.look s 9, Sx.look s 10, Sx.look s 11, Sx.look s 12, Sx.look s 13, Sx.look s 14, g[0]? with
  | some (.one (.int .u8 op)), some (.one (.int .u8 x)), some (.one (.int .u8 y)), some (.one (.int .i64 c')), some (.one (.str t)), some (.one (.int .i64 n)), some (.one (.int .i64 e)), some (.one (.sl a L' k)), some (.one (.int .i64 q)), some o =>
    .leaf .ret (.sym (yes (L' = L ∧ Ok5 c L l op.val x.val y.val c'.val n.val e.val q.val t o a k))) [(8, .one (.bool (.sym true)))] ⟨[], [], m.next⟩ []
  | _, _, _, _, _, _, _, _, _, _ => .fail
theorem cut_row {w : World} {a : Option Addr} {n k : Nat} {l : List Int} (h : RowZ w a n k l) (hn : 1 ≤ n) : RowZ w (cutA a k 1 1) (n - 1) (k - 1) (l.drop 1) := by
  have hl := h.len
  have hle := h.le
  have hmx := h.max
  unfold cutA
  split
  · rename_i hk
    refine ⟨by omega, by omega, fun _ => by omega, by rw [List.length_drop]; omega, h.flat, ?_⟩
    intro j z hj
    have := (List.getElem?_eq_some_iff.1 hj).1
    rw [List.length_drop] at this
    omega
  · cases a with
    | none => have := h.nil rfl; omega
    | some b =>
      refine ⟨by omega, by omega, fun h0 => (by cases h0), by rw [List.length_drop]; omega, ?_, ?_⟩
      · right
        rcases h.flat with h0 | h0
        · cases h0
        · obtain ⟨p, q, r⟩ := b
          cases r with
          | none => rfl
          | some r => cases h0
      · intro j z hj
        rw [List.getElem?_drop] at hj
        have := h.at_ (1 + j) z hj
        rcases h.flat with h0 | h0
        · cases h0
        · obtain ⟨p, q, r⟩ := b
          cases r with
          | some r => cases h0
          | none =>
            simp only [Option.map_some, Option.getD_some, Addr.add_lit] at this ⊢
            rw [show q + 1 * 1 + j = q + (1 + j) by omega]
            exact this
theorem byt_drop {l : List Int} (h : BytL l) : BytL (l.drop 1) := by
  intro j
  have := h (1 + j)
  rw [List.getD_eq_getElem?_getD] at this ⊢
  rw [List.getElem?_drop]
  exact this
theorem rest_ok {w : World} {c : Int} {L : Nat} {l : List Int} {x y : Int} {t : ByteArray} {a : Option Addr} {k : Nat} (hL : 1 ≤ L) (hL3 : L ≤ 3) (hr : RowZ w a L k l) (hb : BytL l) (hx : 0 ≤ x ∧ x ≤ 255) (hy : 0 ≤ y ∧ y ≤ 255)
    (hf : fmtR (c == 2) L (fun j => l.getD j 0) = (t, (L : Int), 0)) (ht : l.drop 1 = [x, y].take (L - 1)) : VC c (l.getD 0 0) w a k L t x y = true ∧ V5 c (l.getD 0 0) w a k L t x y = true := by
  have hrd := hr.rd (show 0 < L by omega)
  have hat : atRow a 0 1 = (a.getD default).add 0 := rfl
  have h1 : A1 w a (l.getD 0 0) = true := by
    unfold A1
    rw [hat, hrd.2]
    exact decide_eq_true rfl
  have hcr := cut_row hr hL
  have hg : (gsub .i64 (L : Int) 1).toNat = L - 1 := by
    unfold gsub
    rw [IntKind.wrap_i64]
    omega
  have h2 : A2 w a k L x y = true := by
    unfold A2
    rw [hcr.inL, hg, ht]
    exact decide_eq_true rfl
  have hfm : fm c w a L = (t, (L : Int), 0) := by
    unfold fm
    rw [txt_in (y := fun j => l.getD j 0) (by have := hb 0; omega) fun j hj => (hr.rd hj).2]
    exact hf
  have h3 : A3 c w a L t = true := by
    unfold A3
    rw [hfm]
    exact eqT_iff.2 rfl
  have h4 : A4 c w a L = true := by
    unfold A4
    rw [hfm]
    exact decide_eq_true rfl
  have h5 : A5 c w a L = true := by
    unfold A5
    rw [hfm]
    exact decide_eq_true rfl
  have hro : yes (RowOk w .u8 a L k) = true := yes_of (hr.row hb)
  have hsome : a.isSome = true := by
    cases a with
    | some _ => rfl
    | none => have := hr.nil rfl; omega
  have hr2 : R2 w a k L = true := yes_of ⟨hcr.row (byt_drop hb), hcr.flat⟩
  have hB : bytB [x, y] = true := by
    unfold bytB
    simp only [List.all_cons, List.all_nil, decide_eq_true hx.1, decide_eq_true hx.2, decide_eq_true hy.1, decide_eq_true hy.2, Bool.and_self]
  have hX : X5 w a k L x y = true := by
    unfold X5
    rw [hsome, hat, hrd.1, hr2, hB]
    rfl
  constructor
  · unfold VC
    rw [hro, h1, h2, h3, h4, h5, hX]
    rfl
  · unfold V5
    rw [h1, h2, h3, h4, h5]
    rfl
theorem f5_ok {W : Bs} (hT : Tabs W.W) (hpin : W.pin = none) {c : Int} {L : Nat} (hc : c = 1 ∨ c = 2) (hL : L = 1 ∨ L = 2 ∨ L = 3) (l : List Int) : CustOk W Tryd.prog 109 end5 (F5 c L l) := by
  intro s m g f a w hgood h
  unfold F5 at hgood ⊢
  split at hgood <;> try exact hgood.elim
  rename_i op x y c' t n e q L' k z o h1 h2 h3 h9 h10 h11 h12 h13 h14 hg
  obtain ⟨rfl, e9, e11, e12, e14, ho, hb, hx, hy, hf, hd, ht, hok⟩ := of_yes hgood
  have hr := ho.row (h.gh.own 0 o hg)
  refine shift_wp hpin h (s' := S5 op.val x.val y.val t c L' q k) ?_ (gl_ok (hT.old h.old)) (t := .plain) trivial (N := 100000) ?_
  · intro p hp
    simp only [S5, List.mem_cons, List.not_mem_nil, or_false] at hp
    rcases hp with rfl | rfl | rfl | rfl | rfl | rfl | rfl | rfl | rfl
    · exact ⟨_, h1, by simp, rfl⟩
    · exact ⟨_, h2, by simp, rfl⟩
    · exact ⟨_, h3, by simp, rfl⟩
    · exact ⟨_, h9, by simp, by show Value.int .i64 c'.val = .int .i64 c; rw [e9]⟩
    · exact ⟨_, h10, by simp, rfl⟩
    · exact ⟨_, h11, by simp, by show Value.int .i64 n.val = .int .i64 L'; rw [e11]⟩
    · exact ⟨_, h12, by simp, by show Value.int .i64 e.val = .int .i64 0; rw [e12]⟩
    · exact ⟨_, h13, by simp, rfl⟩
    · exact ⟨_, h14, by simp, by show Value.int .i64 z.val = .int .i64 0; rw [e14]⟩
  · have hV := rest_ok (by omega) (by omega) hr hb hx hy hf ht
    rw [hd] at hV
    show RetIs 8 true (e5 w op.val x.val y.val t c L' q k)
    rcases hc with rfl | rfl
    · have hE := hok rfl
      have hvc : ∀ {b : Bool}, b = true → (SB.sym (eok op.val && b)).val = true := by
        intro b hb'
        rw [SB.val_sym, hE, hb']
        rfl
      rcases hL with rfl | rfl | rfl
      · refine rtV_all ?_ ?_ (e1_1 ..)
        · exact hvc hV.1
        · exact hV.2
      · refine rtV_all ?_ ?_ (e1_2 ..)
        · exact hvc hV.1
        · exact hV.2
      · refine rtV_all ?_ ?_ (e1_3 ..)
        · exact hvc hV.1
        · exact hV.2
    · rcases hL with rfl | rfl | rfl
      · refine rtV_all ?_ ?_ (e2_1 ..)
        · exact hV.1
        · exact hV.2
      · refine rtV_all ?_ ?_ (e2_2 ..)
        · exact hV.1
        · exact hV.2
      · refine rtV_all ?_ ?_ (e2_3 ..)
        · exact hV.1
        · exact hV.2
noncomputable def pk5 (z : Option (List Int)) : CS := ⟨2, parO (.tmp 33) (.tmp 34) 35 z⟩
noncomputable def t5 (W : World) (c : Int) (L : Nat) (l : List Int) : HG := .seq .plain (.seq .plain (.seq .plain (.seq (.cust (runCalls Tryd.prog W (GL W) 100000 109 (opsOf par5) [pk5 (some l)] 0)) (.cust (F5 c L l)))))
noncomputable def x5 (W : World) (chip op x y : Int) (c : Int) (L : Nat) (l : List Int) : RG := (runG Tryd.prog W (GL W) 100000 109 (t5 W c L l) (bodyOf Tryd.f5) (argSlots 0 [.one (.int .i64 (.sym chip)), .one (.int .u8 (.sym op)), .one (.int .u8 (.sym x)), .one (.int .u8 (.sym y))]) noMem []).slim 1 [] [] [(8, false)] []
def cc (chip : Int) : Int := gadd .i64 1 (IntKind.i64.wrap ((IntKind.u64.wrap chip).tmod (IntKind.u64.wrap 2)))
def fs (c op x y : Int) : ByteArray × Int × Int := fmtR (c == 2) 3 fun j => [op, x, y].getD j 0
noncomputable def vx (chip op x y c : Int) (L : Nat) (l : List Int) (a : Option Addr) (k : Nat) : Bool := (bytB [op, x, y] && true) && (yes (OkP (cc chip) (fs (cc chip) op x y).1 (some l)) && yes (l.length = L ∧ Ok5 c L l op x y (cc chip) (fs (cc chip) op x y).2.1 (fs (cc chip) op x y).2.2 0 (fs (cc chip) op x y).1 ⟨5, 1, a, l.length, k, zs l⟩ a k))
theorem x5_eq (W : World) (chip op x y c : Int) (L : Nat) (l : List Int) : x5 W chip op x y c L l = .any fun a k => .leaf .ret (.sym (vx chip op x y c L l a k)) [(8, .one (.bool (.sym true)))] ⟨[], [], 1⟩ [] := by kernel_rfl
theorem cc_two (chip : Int) : cc chip = 1 ∨ cc chip = 2 := by
  have h := place_range chip 2 (by omega) (by omega)
  unfold cc gadd
  rw [IntKind.wrap_i64]
  omega
/-! ### What Parse finds -/
def two1 (q : Nat × List Nat) : Bool := Nat.ble 2 q.2.length
theorem two_all (k : Bool) : (tabL k).all two1 = true := by cases k <;> kernel_rfl
theorem asc_txt {k : Bool} {v : Nat} (hv : v < 256) {x y : Int} (hx : 0 ≤ x ∧ x ≤ 255) (hy : 0 ≤ y ∧ y ≤ 255) : okLA (txt (tabK k v).1 (tabK k v).2 x y) := by
  obtain ⟨hsz, hl⟩ := txt_size (k := k) hv x y
  have ht := List.all_eq_true.1 (two_all k) _ (tab_mem k v hv)
  unfold two1 at ht
  have ht := Nat.le_of_ble_eq_true ht
  have hlt := ent_lt (List.all_eq_true.1 (ent_all k) _ (tab_mem k v hv))
  refine ⟨?_, by omega, .inr ?_⟩
  · rw [size_list, hl, List.length_append]
    unfold bsL nats
    rw [List.length_map, List.length_map]
    omega
  · intro n hn
    unfold byteAt
    rw [hl, ← bsL_app, Int.toNat_natCast]
    split
    · rename_i b hb
      obtain ⟨z, hz, rfl⟩ := bsL_get _ b (List.mem_of_getElem? hb)
      rw [UInt8.toNat_ofNat']
      rcases List.mem_append.1 hz with hz | hz
      · unfold nats at hz
        obtain ⟨q, hq, rfl⟩ := List.mem_map.1 hz
        have := hlt q hq
        omega
      · have hd := dig_all (L := (tabK k v).1) hx hy z hz
        unfold isDig at hd
        rw [Bool.and_eq_true, Bool.and_eq_true, decide_eq_true_eq, decide_eq_true_eq] at hd
        omega
    · omega
theorem fmt3 {k : Bool} {v : Nat} (hv : v < 256) (x y : Int) : (fmtR k 3 fun j => [(v : Int), x, y].getD j 0) = (txt (tabK k v).1 (tabK k v).2 x y, ((tabK k v).1 : Int), 0) := by
  unfold fmtR
  have hL := lens k v hv
  show (match Nat.blt 3 (tabK k (v : Int).toNat).1 with | true => (strB [], (0 : Int), (1 : Int)) | false => (txt (tabK k (v : Int).toNat).1 (tabK k (v : Int).toNat).2 x y, ((tabK k (v : Int).toNat).1 : Int), 0)) = _
  rw [Int.toNat_natCast]
  have : Nat.blt 3 (tabK k v).1 = false := by
    rcases hL with h | h | h <;> rw [h] <;> rfl
  rw [this]
theorem frst_some {k : Bool} {q : Nat × List Nat} {u : Nat} : ∀ {n : Nat}, n ≤ 256 → frst k q n = some u → u < 256 ∧ tabK k u = q
  | 0, _, h => by cases h
  | n + 1, hn, h => by
    unfold frst at h
    cases hs : sameQ (tabK k (255 - n)) q with
    | true =>
      rw [hs, cond_true, Option.some.injEq] at h
      subst h
      exact ⟨by omega, sameQ_iff.1 hs⟩
    | false =>
      rw [hs, cond_false] at h
      exact frst_some (by omega) h
theorem enc_dl (k : Bool) (op : Int) : ∀ n, enc k (dl k op) n = enc k (ins k op.toNat) n
  | 0 => rfl
  | n + 1 => by
    unfold enc
    rw [enc_dl k op n]
    rfl
/-- What the first such opcode is. -/
theorem first_op {k : Bool} {v : Nat} (hv : v < 256) : ∃ u, frst k (tabK k v) 256 = some u ∧ (k = true → u = v) ∧ (k = false → enc false (ins false v) 256 = some u) := by
  cases k with
  | true =>
    have h := List.all_eq_true.1 frst85 v (List.mem_range.2 hv)
    split at h
    · rename_i u hu
      exact ⟨u, hu, fun _ => Nat.eq_of_beq_eq_true h, fun h => (by cases h)⟩
    · cases h
  | false =>
    have h := List.all_eq_true.1 frst80 v (List.mem_range.2 hv)
    split at h
    · rename_i u w hu hw
      have := Nat.eq_of_beq_eq_true h
      subst this
      exact ⟨u, hu, fun h => (by cases h), fun _ => hw⟩
    · cases h
theorem tk_len {v : Nat} {x y : Int} {L : Nat} (h : L = 1 ∨ L = 2 ∨ L = 3) : (tk v x y L).length = L := by
  rcases h with rfl | rfl | rfl <;> rfl
theorem tk_byt {v : Nat} (hv : v < 256) {x y : Int} (hx : 0 ≤ x ∧ x ≤ 255) (hy : 0 ≤ y ∧ y ≤ 255) (L : Nat) : BytL (tk v x y L) := bytL_take (byt_cons (by omega) (byt_cons hx (byt_cons hy byt_e))) L
theorem okX {chip op x y : Int} (ho : 0 ≤ op ∧ op ≤ 255) (hx : 0 ≤ x ∧ x ≤ 255) (hy : 0 ≤ y ∧ y ≤ 255) : ∃ (L : Nat) (l : List Int), (L = 1 ∨ L = 2 ∨ L = 3) ∧ ∀ (a : Option Addr) (k : Nat), vx chip op x y (cc chip) L l a k = true := by
  obtain ⟨v, rfl⟩ : ∃ v : Nat, op = v := ⟨op.toNat, by omega⟩
  have hv : v < 256 := by omega
  have hk : ∀ b : Bool, (cc chip == 2) = b → b = (cc chip == 2) := fun _ h => h.symm
  obtain ⟨u, hu, h85, h80⟩ := first_op (k := cc chip == 2) hv
  obtain ⟨hu2, hq⟩ := frst_some (Nat.le_refl _) hu
  have hL := lens (cc chip == 2) v hv
  have hf := fmt3 (k := cc chip == 2) hv x y
  have hB : bytB [(v : Int), x, y] = true := by
    unfold bytB
    simp only [List.all_cons, List.all_nil, decide_eq_true ho.1, decide_eq_true ho.2, decide_eq_true hx.1, decide_eq_true hx.2, decide_eq_true hy.1, decide_eq_true hy.2, Bool.and_self]
  refine ⟨(tabK (cc chip == 2) v).1, tk u x y (tabK (cc chip == 2) v).1, hL, fun a k => ?_⟩
  have hP : OkP (cc chip) (fs (cc chip) v x y).1 (some (tk u x y (tabK (cc chip == 2) v).1)) := by
    unfold fs
    rw [hf]
    refine ⟨asc_txt hv hx hy, ?_⟩
    rw [scan_txt hv hx hy rfl 256 (Nat.le_refl _), hu]
    rfl
  have hlen := tk_len (v := u) (x := x) (y := y) hL
  have h5 : (tk u x y (tabK (cc chip == 2) v).1).length = (tabK (cc chip == 2) v).1 ∧ Ok5 (cc chip) (tabK (cc chip == 2) v).1 (tk u x y (tabK (cc chip == 2) v).1) v x y (cc chip) (fs (cc chip) v x y).2.1 (fs (cc chip) v x y).2.2 0 (fs (cc chip) v x y).1 ⟨5, 1, a, (tk u x y (tabK (cc chip == 2) v).1).length, k, zs (tk u x y (tabK (cc chip == 2) v).1)⟩ a k := by
    refine ⟨hlen, ?_⟩
    unfold fs
    rw [hf]
    refine ⟨rfl, rfl, rfl, rfl, ⟨rfl, hlen.symm, rfl, rfl, rfl, rfl⟩, tk_byt hu2 hx hy _, hx, hy, ?_, ?_, ?_, ?_⟩
    · have h := tk_fmt (k := cc chip == 2) hu2 x y
      rw [hq, hlen] at h
      exact h
    · have hh : (tk u x y (tabK (cc chip == 2) v).1).getD 0 0 = (u : Int) := by
        rcases hL with h | h | h <;> rw [h] <;> rfl
      rw [hh]
      rcases cc_two chip with h | h
      · rw [h] at h80 ⊢
        show (u : Int) = en v
        unfold en
        rw [enc_dl, Int.toNat_natCast]
        have := h80 rfl
        show (u : Int) = (((enc false (ins false v) 256).getD 0 : Nat) : Int)
        rw [this]
        rfl
      · rw [h] at h85 ⊢
        rw [h85 rfl]
        rfl
    · rcases hL with h | h | h <;> rw [h] <;> rfl
    · intro h
      rw [h] at h80
      unfold eok
      rw [enc_dl, Int.toNat_natCast]
      have := h80 rfl
      show ((decide (0 ≤ (v : Int)) && decide ((v : Int) < 256)) && (enc false (ins false v) 256).isSome) = true
      rw [this, decide_eq_true ho.1, decide_eq_true (show (v : Int) < 256 by omega)]
      rfl
  unfold vx
  rw [hB, yes_of hP, yes_of h5]
  rfl
theorem law {W : World} (hT : Tabs W) {chip op x y : Int} (ho : 0 ≤ op ∧ op ≤ 255) (hx : 0 ≤ x ∧ x ≤ 255) (hy : 0 ≤ y ∧ y ≤ 255) : Calls Tryd.prog 5 #[.int .i64 chip, .int .u8 op, .int .u8 x, .int .u8 y] W fun en w' => en = .returned (.bool true) ∧ Below W.heap.size W w' := by
  obtain ⟨L, l, hL, hvx⟩ := okX (chip := chip) ho hx hy
  have hcalls := calls_of_runG (gl_ok hT) (n := 100000) (g := 5) Tryd.func5 (show Tryd.f5.body = some (bodyOf Tryd.f5) by kernel_rfl) (t := t5 W (cc chip) L l) (args := [.one (.int .i64 (.sym chip)), .one (.int .u8 (.sym op)), .one (.int .u8 (.sym x)), .one (.int .u8 (.sym y))]) ?_ (by rw [show Tryd.f5.ntmps = 109 by kernel_rfl]; simp)
    (R := fun v _ => v = .one (.bool (.sym true))) (N := 1) (ks := []) (bs := []) (ke := [(8, false)]) (be := []) rfl rfl ?_
  · refine hcalls.mono ?_
    rintro en w' ⟨v, g, f, rfl, rfl, _, hb⟩
    exact ⟨rfl, hb⟩
  · have e : HGOk (W : Bs) Tryd.prog Tryd.f5.ntmps (t5 W (cc chip) L l) (bodyOf Tryd.f5) = (True ∧ True ∧ True ∧ CustOk (W : Bs) Tryd.prog 109 par5 (runCalls Tryd.prog W (GL W) 100000 109 (opsOf par5) [pk5 (some l)] 0) ∧ CustOk (W : Bs) Tryd.prog 109 end5 (F5 (cc chip) L l)) := by kernel_rfl
    rw [e]
    refine ⟨trivial, trivial, trivial, ?_, f5_ok hT rfl (cc_two chip) hL l⟩
    have hk : CallGOk (W : Bs) Tryd.prog 109 (opsOf par5) (pk5 (some l)) := by
      have he : ((opsOf par5).toList[2]?).map (fun o => (gNone o, o.dst, callOf o)) = some (true, some 35, some (.func 11, [.tmp 33, .tmp 34])) := by kernel_rfl
      cases ho : (opsOf par5).toList[2]? with
      | none => rw [ho] at he; cases he
      | some o =>
        rw [ho] at he
        simp only [Option.map_some, Option.some.injEq, Prod.mk.injEq] at he
        refine callG_of ho ?_ (parO_ok (W := (W : Bs)) hT he.2.1 he.2.2 (by decide))
        have h1 := he.1
        unfold gNone at h1
        split at h1
        · assumption
        · cases h1
    have := calls_cust (W := (W : Bs)) (P := Tryd.prog) (G := GL W) (N := 100000) (nt := 109) (id := idC par5) (gl_ok hT) (ops := opsOf par5) (l := [pk5 (some l)]) (by intro d hd; rw [List.mem_singleton] at hd; rw [hd]; exact hk) (by simp)
    have p5r : par5 = .region (idC par5) (opsC par5) false := by kernel_rfl
    rw [opsOf_opsC, ← p5r] at this
    rw [opsOf_opsC]
    exact this
  · have hx5 := x5_eq W chip op x y (cc chip) L l
    unfold x5 at hx5
    rw [show Tryd.f5.ntmps = 109 by kernel_rfl, hx5]
    intro a k
    refine ⟨?_, .inr rfl, [(false, [.bool (.sym true)])], _, by kernel_rfl, rfl, rfl⟩
    rw [SB.val_sym]
    exact hvx a k
def shapes : List ASh := [.one (.int .i64), .one (.int .u8), .one (.int .u8), .one (.int .u8)]
theorem walk {W : World} (hT : Tabs W) (e : Env) (h : argsOk W e 0 shapes) : Calls Tryd.prog 5 ((argsTV e 0 shapes).map (TV.den fun _ => 0)).toArray W fun en W' => en = .returned (.bool true) ∧ Below W.heap.size W W' := by
  obtain ⟨_, h1, h2, h3, -⟩ := h
  exact law (W := W) hT h1 h2 h3
theorem lifted (os : Os) (started : os.Started) (H : Type) (enc : TypeId × Value → H) :
    ReturnsInHanded {} Tryd.checked os 5 .any (fun w args => (Rows.listingRoundTripsSpec.pre enc Tryd.prog Tryd.f5 [] false w args ∧ laidMetH Tryd.prog laidL w) ∧ sizedMet enc Tryd.prog Tryd.f5 (OpenSpec.ofChange Rows.listingRoundTripsSpec) false w args) (Rows.listingRoundTripsSpec.post enc Tryd.prog Tryd.f5 false true false false) :=
  law_stepL (C := Tryd.checked) (X := fun w => laidMetH Tryd.prog laidL w) (fun _ _ hh h => h.of_heap hh) 4 own started (by kernel_rfl) Tryd.func5 (by kernel_rfl) (by kernel_rfl) rfl
    (fun ds hd => by
      match ds, hd with
      | [d0, d1, d2, d3], _ => rfl)
    (ChangeSpec.witness_shaped (enc := enc) (C := Tryd.checked) (os := os) (X := fun w _ => laidMetH Tryd.prog laidL w) false (World.laidAll Tryd.prog os laidL) #[.int .i64 0, .int .u8 0, .int .u8 0, .int .u8 0] 8 (World.laidAll_os _ _ _)
      (World.shaped_of_ZipB (by kernel_rfl) (by kernel_rfl)) (by kernel_rfl) (by kernel_rfl) (by kernel_rfl) (laid_met os _))
    (fun W base args hX hv hl _ _ htr => shape_walkL shapes (by kernel_rfl) (fun e h => walk (tabs_of hX) e h) base args hv hl htr)
theorem over : Rows.listingRoundTripsRow.holds Tryd.pinned (OpenSpec.ofChange Rows.listingRoundTripsSpec) :=
  OpenClaim.holds_of_wide 5 Tryd.f5 rfl rfl rfl rfl rfl rfl rfl ⟨rfl, rfl, rfl, rfl, rfl⟩ rfl rfl rfl rfl rfl (by kernel_rfl) Tryd.func5 (by kernel_rfl)
    (of_decide_eq_true (by kernel_rfl)) (by unfold Func.isWrapper; first | (rw [if_pos (by decide +kernel)]; kernel_rfl) | (rw [if_neg (by decide +kernel)]; exact ⟨rfl, rfl⟩))
    (fun os started H enc _ => lifted os started H enc)
theorem proved : Rows.ListingRoundTripsCardSaid :=
  Claim7.holds_tied_plain_at .later [] [.data, .pinned] true (true, "5a16254ff44ab90f7cd9a716dfd463f6c71280108dac93345729763970746f0c") false over (fun _ h => by cases h) (by kernel_rfl) (fun _ h => by cases h) listingRoundTrips_row_tie rfl ⟨rfl, rfl⟩ (by kernel_rfl) rfl
    (fun f fn hf hfn => by
      obtain rfl : f = 5 := Option.some.inj ((show Tryd.prog.funcNamed "tstate/tstatelaw11.ListingRoundTrips" = some 5 by kernel_rfl).symm.trans hf) |>.symm
      obtain rfl : fn = Tryd.f5 := (Option.some.inj (Tryd.func5.symm.trans hfn)).symm
      exact ⟨by kernel_rfl, fun j t ht => by
        rw [Tryd.params5] at ht
        have hm : t ∈ [3, 5, 5, 5] := by simpa using Array.mem_of_getElem? ht
        have hall : ([3, 5, 5, 5].all fun u => !Tryd.prog.wantsStandIn u) = true := by kernel_rfl
        exact (show Tryd.prog.wantsStandIn t = false by simpa using List.all_eq_true.1 hall t hm)⟩)
    (by kernel_rfl)
#print axioms proved
end Go.Proofs.YtdglgiaegjkinaaDoor.listingRoundTrips
