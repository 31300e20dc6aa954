/- The maker Script: what it hands back is a new row of bytes; which ones stays open. -/
import Derived.Test.YtdfplmkaaodblaaDmg
import Derived.Test.YtdfplmkaaodblaaMkC
namespace Go.Proofs.Ytdfplmkaaodblaa.dc
open Go Go.Sx Go.RowKit Go.Proofs.Ytdfplmkaaodblaa.mk
set_option maxRecDepth 100000
noncomputable def body9 : Code := match Try.f9.body with
  | some c => c
  | none => .skip
noncomputable def opsA9 : Array Oper := match body9 with
  | .seq _ (.seq (.region _ ops _) _) => ops
  | _ => #[]
noncomputable def opsX9 : Array Oper := match body9 with
  | .seq _ (.seq _ (.seq (.seq _ (.cond _ (.region _ ops _) _)) _)) => ops
  | _ => #[]
def SP9 (a : Option Addr) (n c : Nat) : SL := [(0, .one (.ptr 0 0)), (5, .one (.sl a n c))]
noncomputable def pre9 (W : World) (a : Option Addr) (n c : Nat) (qa : Option Addr) (qn qc : Nat) (x : Int) (g : Gh) : RG :=
  ((((run Try.prog W (GN W) 100000 (.dops opsX9 (opsX9.toList.take 11) 0 [] []) ⟨31, SP9 a n c, ⟨[], [nB qa qn qc x], 1⟩⟩ [] (⟨[], [nB qa qn qc x], 1⟩ : Mem).fresh).collapse (SP9 a n c) ⟨[], [nB qa qn qc x], 1⟩).over (SP9 a n c) ⟨[], [nB qa qn qc x], 1⟩).toG g)
def ix9 (W : World) (n : Nat) (qa : Option Addr) (qn : Nat) (x : Int) : Int := nxt W qa qn x (n : Int)
def v9 (W : World) (a : Option Addr) (n : Nat) (qa : Option Addr) (qn : Nat) (x : Int) : Int := bits .xor .u8 (rdInt W (atRow a (ix9 W n qa qn x) 1)) (gshl .u8 1 (nxt W qa qn (gadd .i64 x 1) 8))
noncomputable def c9 (W : World) (a : Option Addr) (n : Nat) (qa : Option Addr) (qn qc : Nat) (x : Int) : Bool := ((okRow W qa qn qc && inB 0 x) && (decide (0 < (n : Int)) && decide ((n : Int) ≤ 9223372036854775807))) && (inRow a n (ix9 W n qa qn x) && (isInt W .u8 (atRow a (ix9 W n qa qn x) 1) && ((okRow W qa qn qc && inB 0 (gadd .i64 x 1)) && decide (0 ≤ nxt W qa qn (gadd .i64 x 1) 8))))
def ks9 : List (Nat × Bool) := [(0, true), (5, true), (18, true), (22, true), (28, true)]
def S9 (a : Option Addr) (n c : Nat) (ix v : Int) : SL := [(0, .one (.ptr 0 0)), (5, .one (.sl a n c)), (18, .one (.sl a n c)), (22, .one (.int .i64 (.sym ix))), (28, .one (.int .u8 (.sym v)))]
theorem cut9 : cutOk opsX9 11 = true := by kernel_rfl
theorem fol9 : Try.prog.follows .mixedOrders = true := by kernel_rfl
theorem run9 (W : World) (a : Option Addr) (n c : Nat) (qa : Option Addr) (qn qc : Nat) (x : Int) (g : Gh) : (pre9 W a n c qa qn qc x g).slim 1 ks9 [(0, true)] [] [] =
    .leaf .nrm (.sym (c9 W a n qa qn qc x)) (S9 a n c (ix9 W n qa qn x) (v9 W a n qa qn x)) ⟨[], [nB qa qn qc (gadd .i64 (gadd .i64 x 1) 1)], 1⟩ g := by kernel_rfl
noncomputable def l9 : List CS := [⟨11, ixO 1 1 18 22 29⟩, ⟨12, stB 1 29 22 28⟩]
theorem tail9 (W : World) (a : Option Addr) (n c : Nat) (qa : Option Addr) (qn qc : Nat) (ix v x : Int) (o0 o1 : Own) : (runCalls Try.prog W (GN W) 100000 31 opsX9 l9 11 (S9 a n c ix v) ⟨[], [nB qa qn qc x], 1⟩ [o0, o1]).slim 1 [(0, true), (5, true)] [(0, true)] [] [] =
    .leaf .nrm (.sym (yes (Lies o1 a n c ix) && yes (OkZ o1 o1.a o1.n o1.c ∧ Lies o1 o1.a o1.n o1.c ix ∧ atRow a ix 1 = atRow o1.a ix 1))) (SP9 a n c) ⟨[], [nB qa qn qc x], 1⟩ [o0, { o1 with xs := bys ((unB o1.xs).set ix.toNat v) }] := by kernel_rfl
theorem calls9 (W : Bs) : ∀ c ∈ l9, CallGOk W Try.prog 31 opsX9 c := by
  intro c hc
  simp only [l9, List.mem_cons, List.not_mem_nil, or_false] at hc
  rcases hc with rfl | rfl
  · exact callG_of (o := opAt opsX9 11) (by kernel_rfl) (by kernel_rfl) (ixO_ok (t := 22) (e := 5) (by kernel_rfl) (by kernel_rfl) (by decide) u22 sizeT5)
  · exact callG_of (o := opAt opsX9 12) (by kernel_rfl) (by kernel_rfl) (stB_ok (by kernel_rfl) (by kernel_rfl) rfl)
theorem pre9_draw {W : Bs} {W' : World} {a : Option Addr} {n c : Nat} {qa : Option Addr} {qn qc : Nat} {x : Int} {g : Gh} {f : Nat → Nat} {ac : Act} {w : World} (h : GSt W 31 (SP9 a n c) ⟨[], [nB qa qn qc x], 1⟩ g f ac w) (hold : Old W' w)
    (hfree : ∀ b j, Go.Sx.look [nB qa qn qc x] b = some j → Free W' (f b)) (hg : PGood (pre9 W' a n c qa qn qc x g)) {Q : Exit → Act → World → Prop} (hQ : ∀ a1 w1, PPost W 31 (pre9 W' a n c qa qn qc x g) .normal a1 w1 → wpList Try.prog opsX9 Q (opsX9.toList.drop 11) a1 w1) : (Code.region 3 opsX9 true).wp Try.prog Q ac w := by
  unfold pre9 at hg hQ
  exact draw_other (gokN W') cut9 fol9 h hold hfree hg hQ
theorem addr_block (q : Addr) (k : Nat) : (q.add k).block = q.block := by
  unfold Addr.add
  split <;> rfl
theorem ctl_nil : Ctl [] := by
  intro k z hz
  simp at hz
noncomputable def X9 (W : World) (s : SL) (m : Mem) (g : Gh) : RG := match Go.Sx.look s 0, Go.Sx.look s 5, g, pickB m [(0, true)] with
  | some (.one (.ptr 0 0)), some (.one (.sl a n c)), [o0, o1], some [(0, j)] => match j.init with
    | [.sl qa qn qc, .int .i64 (.sym x)] => match Nat.beq j.elem 46 && j.rw with
      | true => .pick (⟨([], 0), ctl_nil⟩ : { q : List Int × Int // Ctl q.1 }) fun q => .leaf .nrm (.sym (yes (OkZ o1 a n c ∧ Ctl (unB o1.xs) ∧ RowOk W .i64 qa qn qc ∧ inB 2 x = true ∧ 0 < n ∧ n ≤ 1000000))) (SP9 a n c) ⟨[], [nB qa qn qc q.val.2], 1⟩ [o0, { o1 with xs := bys q.val.1 }]
      | false => .fail
    | _ => .fail
  | _, _, _, _ => .fail
theorem custX9 (W : Bs) : CustOk W Try.prog 31 (.region 3 opsX9 true) (X9 W.W) := by
  intro s m g f ac w hgood h
  unfold X9 at hgood ⊢
  split at hgood <;> try exact hgood.elim
  rename_i a n c o0 o1 j hx0 hx5 hB
  split at hgood <;> try exact hgood.elim
  rename_i qa qn qc x hj
  split at hgood <;> try exact hgood.elim
  rename_i hchk
  rw [Bool.and_eq_true, Nat.beq_eq] at hchk
  obtain ⟨hz, hctl, hq, hin, hn0, hn1⟩ := of_yes (hgood ⟨([], 0), ctl_nil⟩)
  have hji : j = ⟨46, [.sl qa qn qc, .int .i64 (.sym x)], true⟩ := by
    obtain ⟨e, i, r⟩ := j
    dsimp only at hj hchk
    rw [hj, hchk.1, hchk.2]
  subst hji
  have h1 := h.pick (N := 1) hB rfl (fun _ _ => Nat.one_pos) [(0, true), (5, true)]
  have hS : pickS (Go.Sx.look s) [(0, true), (5, true)] = SP9 a n c := by
    simp only [pickS, hx0, hx5]
    rfl
  rw [hS] at h1
  have hown := h1.gh.own 1 o1 rfl
  have hrow := hz.row hown
  obtain ⟨bk, ha, hbk⟩ := own_addr hown (by rw [← hz.n]; exact hn0)
  have hne : bk ≠ f 0 := fun hh => h1.gh.off 1 o1 rfl bk hbk 0 _ rfl hh.symm
  have hfree : Free W.W (f 0) := h1.baseW (b := 0) rfl
  have hq' : RowOk (hole w (f 0)) .i64 qa qn qc := by
    refine ⟨hq.le, hq.max, hq.nil, fun k hk => ?_⟩
    obtain ⟨h2, h3, h4⟩ := hq.at_ k hk
    have h5 := isInt_cell h2
    have hb : ((qa.getD default).add k).block ≠ f 0 := by
      intro hh
      rw [hfree _ hh] at h5
      cases h5
    have h6 := h1.old.cell h5
    rw [← hole_cell hb] at h6
    obtain ⟨h7, h8⟩ := isInt_of h6
    rw [h8]
    exact ⟨h7, h3, h4⟩
  have hix := nxt_range (hole w (f 0)) qa qn x (k := (n : Int)) (by omega) (by omega)
  have hix' : 0 ≤ ix9 (hole w (f 0)) n qa qn x ∧ ix9 (hole w (f 0)) n qa qn x < (n : Int) := hix
  have hcell : isInt (hole w (f 0)) .u8 (atRow a (ix9 (hole w (f 0)) n qa qn x) 1) = true := by
    have hl := hrow.len
    have hg : (unB o1.xs)[(ix9 (hole w (f 0)) n qa qn x).toNat]? = some ((unB o1.xs).getD (ix9 (hole w (f 0)) n qa qn x).toNat 0) := by
      rw [List.getD, List.getElem?_eq_getElem (by omega)]
      rfl
    have h6 := hrow.at_ _ _ hg
    have hb : ((a.getD default).add (ix9 (hole w (f 0)) n qa qn x).toNat).block ≠ f 0 := by
      have e : ((a.getD default).add (ix9 (hole w (f 0)) n qa qn x).toNat).block = bk := by rw [hz.a, ha, addr_block]; rfl
      rw [e]
      exact hne
    rw [← hole_cell hb] at h6
    have e : atRow a (ix9 (hole w (f 0)) n qa qn x) 1 = (a.getD default).add (ix9 (hole w (f 0)) n qa qn x).toNat := by rw [atRow, Nat.mul_one]
    rw [e]
    exact (isInt_of h6).1
  have h8 := nxt_range (hole w (f 0)) qa qn (gadd .i64 x 1) (k := 8) (by decide) (by decide)
  have hc9 : c9 (hole w (f 0)) a n qa qn qc x = true := by
    have hin0 := inB_of hin
    have e1 : inB 0 x = true := inB_le hin (by decide)
    have e2 : inB 0 (gadd .i64 x 1) = true := inB_succ (m := 0) (inB_le hin (by decide)) (by decide)
    have e3 : inRow a n (ix9 (hole w (f 0)) n qa qn x) = true := by
      unfold inRow
      rw [decide_eq_true hix'.1, decide_eq_true hix'.2, hz.a, ha]
      rfl
    unfold c9
    rw [okRow_of hq', e1, e2, e3, hcell, decide_eq_true (show 0 < (n : Int) by omega), decide_eq_true (show (n : Int) ≤ 9223372036854775807 by omega), decide_eq_true h8.1]
    rfl
  obtain ⟨hgd, hpost⟩ := slim_leaf (W := W) (nt := 31) _ (run9 (hole w (f 0)) a n c qa qn qc x [o0, o1]) hc9 (fun _ _ => Nat.one_pos) rfl rfl
  refine pre9_draw h1 (hole_old _ _) ?_ hgd fun a1 w1 hp => ?_
  · intro b j hj
    unfold nB at hj
    rw [look_cons] at hj
    by_cases hb : 0 = b
    · rw [← hb]
      exact hole_free _ _
    · rw [if_neg hb] at hj
      cases hj
  obtain ⟨_, f1, h2⟩ := hpost _ _ _ hp
  have hlies : Lies o1 a n c (ix9 (hole w (f 0)) n qa qn x) := ⟨hz.a, hz.n, hz.c, hix'.1, hix'.2⟩
  have htc : (yes (Lies o1 a n c (ix9 (hole w (f 0)) n qa qn x)) && yes (OkZ o1 o1.a o1.n o1.c ∧ Lies o1 o1.a o1.n o1.c (ix9 (hole w (f 0)) n qa qn x) ∧ atRow a (ix9 (hole w (f 0)) n qa qn x) 1 = atRow o1.a (ix9 (hole w (f 0)) n qa qn x) 1)) = true := by
    rw [yes_of hlies, yes_of ⟨⟨rfl, rfl, rfl, hz.e, hz.size, hz.xs⟩, ⟨rfl, rfl, rfl, hix'.1, by rw [← hz.n]; exact hix'.2⟩, by rw [hz.a]⟩]
    rfl
  obtain ⟨htg, htp⟩ := slim_leaf (W := W) (nt := 31) _ (tail9 W.W a n c qa qn qc (ix9 (hole w (f 0)) n qa qn x) (v9 (hole w (f 0)) a n qa qn x) (gadd .i64 (gadd .i64 x 1) 1) o0 o1) htc (fun _ _ => Nat.one_pos) rfl rfl
  refine wpList_up (fun e a2 w2 hp2 => ?_) _ _ _ (runCalls_P (gokN W.W) l9 11 (calls9 W) (by simp [l9]) (by simp [l9]) htg h2)
  obtain ⟨h9, f9, h10⟩ := htp _ _ _ hp2
  exact ⟨⟨((unB o1.xs).set (ix9 (hole w (f 0)) n qa qn x).toNat (v9 (hole w (f 0)) a n qa qn x), gadd .i64 (gadd .i64 x 1) 1), ctl_dmg hctl _ _ _⟩, h9, f9, h10⟩
end Go.Proofs.Ytdfplmkaaodblaa.dc
