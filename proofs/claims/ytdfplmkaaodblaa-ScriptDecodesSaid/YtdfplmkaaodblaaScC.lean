/- The call of Script among the operations of a region. -/
import Derived.Test.YtdfplmkaaodblaaScr
namespace Go.Proofs.Ytdfplmkaaodblaa.dc
open Go Go.Sx Go.RowKit Go.Proofs.Ytdfplmkaaodblaa.mk
set_option maxRecDepth 100000
noncomputable def FA9 (W : World) : SL → Mem → Gh → RG := runCalls Try.prog W (GN W) 100000 31 opsA9 [⟨2, inF W 6 (.tmp 7) 8⟩, ⟨3, encO 0 8 9⟩] 0
noncomputable def t9 (W : World) : HG := .seq .plain (.seq (.cust (FA9 W)) (.seq (.seq .plain (.cond (.cust (X9 W)) .plain)) .plain))
def nb9 (L : Nat) : Nat := 4 * min L 65536
def x9 (L : Nat) (x : Int) : Int := bif decide (((nb9 L : Nat) : Int) > 0) then gadd .i64 x 1 else x
noncomputable def cI (W : World) (a : Option Addr) (n c : Nat) (k : Int) : Bool := yes (RowOk W .i64 a n c ∧ (SI.sym 0).val = 0 ∧ 0 ≤ (SI.sym k).val ∧ (SI.sym k).val ≤ 900)
noncomputable def cG9 (W : World) (a : Option Addr) (n c : Nat) (L : Nat) (x : Int) : Bool := bif decide (((nb9 L : Nat) : Int) > 0) then (okRow W a n c && inB 0 x) else true
def E9 (a1 : Option Addr) (L c1 : Nat) (es : List Ent) : Own := encR' a1 L c1 (unE (ents es))
noncomputable def cX (W : World) (a : Option Addr) (n c : Nat) (es : List Ent) (a1 : Option Addr) (c1 : Nat) (x : Int) : Bool := yes (OkZ (E9 a1 es.length c1 es) a1 (nb9 es.length) c1 ∧ Ctl (unB (E9 a1 es.length c1 es).xs) ∧ RowOk W .i64 a n c ∧ inB 2 (x9 es.length x) = true ∧ 0 < nb9 es.length ∧ nb9 es.length ≤ 1000000)
noncomputable def cP (W : World) (a : Option Addr) (n c : Nat) (k : Int) (es : List Ent) (a0 : Option Addr) (c0 : Nat) : Bool := cI W a n c k && yes (OkE (gE a0 c0 es) a0 es.length c0)
theorem whole9 (W : World) (a : Option Addr) (n c : Nat) (k : Int) : (runG Try.prog W (GN W) 100000 31 (t9 W) body9 (argSlots 0 [.one (.ptr 0 0), .one (.int .i64 (.sym k))]) (nMem 46 a n c (.sym 0)) []).slim 1 [] [] [(4, false)] [(0, true)] =
    .pick (fullD (m21 W a n k)) fun q => .any fun a0 c0 => .any fun a1 c1 => .br (bif decide (((nb9 q.val.1.length : Nat) : Int) > 0) then (nxt W a n q.val.2 4 == 0) else false)
      (.pick (⟨([], 0), ctl_nil⟩ : { q : List Int × Int // Ctl q.1 }) fun r => .leaf .ret (.sym (cP W a n c k q.val.1 a0 c0 && (cG9 W a n c q.val.1.length q.val.2 && cX W a n c q.val.1 a1 c1 q.val.2))) [(4, .one (.sl a1 (nb9 q.val.1.length) c1))] ⟨[], [nB a n c r.val.2], 1⟩ [gE a0 c0 q.val.1, { E9 a1 q.val.1.length c1 q.val.1 with xs := bys r.val.1 }])
      (.leaf .ret (.sym (cP W a n c k q.val.1 a0 c0 && cG9 W a n c q.val.1.length q.val.2)) [(4, .one (.sl a1 (nb9 q.val.1.length) c1))] ⟨[], [nB a n c (x9 q.val.1.length q.val.2)], 1⟩ [gE a0 c0 q.val.1, E9 a1 q.val.1.length c1 q.val.1]) := by kernel_rfl
/-- A row of bytes, as it comes out. -/
def gZ (oa : Option Addr) (n oc : Nat) (zs : List Int) : Own := ⟨5, 1, oa, n, oc, bys zs⟩
/-- Some bytes, so many; a number behind them. -/
abbrev Scr := { q : List Int × Nat × Int // Ctl q.1 ∧ q.2.1 ≤ 1000000 }
def scr0 : Scr := ⟨([], 0, 0), ctl_nil, by decide⟩
theorem custA9 (W : Bs) : CustOk W Try.prog 31 (.region 1 opsA9 false) (FA9 W.W) := by
  refine calls_cust (gokN W.W) ?_ (by simp)
  intro c hc
  simp only [List.mem_cons, List.not_mem_nil, or_false] at hc
  rcases hc with rfl | rfl
  · exact callG_of (o := opAt opsA9 2) (by kernel_rfl) (by kernel_rfl) (inF_ok (by kernel_rfl) (by kernel_rfl) (by decide))
  · exact callG_of (o := opAt opsA9 3) (by kernel_rfl) (by kernel_rfl) (encO_ok (by kernel_rfl) (by kernel_rfl) (by decide) named18 enc18)
theorem script9 (W : Bs) {a : Option Addr} {n c : Nat} {k : Int} {j : Nat} (hj : W.X j) (hpin : W.pin = some j) (hr : RowOk W.W .i64 a n c) (hk : 0 ≤ k ∧ k ≤ 900)
    (hm : MOk W.w0 (fun i => ∃ b j', Go.Sx.look (nMem 46 a n c (.sym 0)).blks b = some j' ∧ (fun _ => j) b = i) (fun _ => j) (nMem 46 a n c (.sym 0)) W.w0) :
    Calls Try.prog 9 #[.pointer (some ⟨j, 0, none⟩), .int .i64 k] W.w0 fun en w' => ∃ (q : Scr) (oa : Option Addr) (oc : Nat) (f : Nat → Nat),
      en = .returned (.slice oa q.val.2.1 oc) ∧ (gZ oa q.val.2.1 oc q.val.1).rel W.w0.heap.size w' ∧ Fr W.W W.w0 W.X w' ∧ f 0 = j ∧ MOk w' (fun i => ∃ b j, Go.Sx.look [nB a n c q.val.2.2] b = some j ∧ f b = i) f ⟨[], [nB a n c q.val.2.2], 1⟩ w' := by
  have hg : gadd .i64 k 1 = k + 1 := by
    unfold gadd
    rw [IntKind.wrap_i64]
    omega
  have hM := nxt_range W.W a n 0 (k := gadd .i64 k 1) (by omega) (by omega)
  have hM' : 0 ≤ m21 W.W a n k ∧ m21 W.W a n k ≤ 900 := by unfold m21; omega
  have hcalls := calls_of_runX (W := W) (gokN W.W) (n := 100000) (g := 9) Try.func9 (show Try.f9.body = some body9 by kernel_rfl) (t := t9 W.W) ?_ (args := [.one (.ptr 0 0), .one (.int .i64 (.sym k))]) (by rw [show Try.f9.ntmps = 31 by kernel_rfl]; simp)
    (R := fun v m g => ∃ (q : Scr) (oa : Option Addr) (oc : Nat), v = .one (.sl oa q.val.2.1 oc) ∧ m = ⟨[], [nB a n c q.val.2.2], 1⟩ ∧ g[1]? = some (gZ oa q.val.2.1 oc q.val.1)) (N := 1) (ks := []) (bs := []) (ke := [(4, false)]) (be := [(0, true)]) rfl rfl hm ?_ ?_ (fun _ _ => by decide) ?_
  · refine hcalls.mono ?_
    rintro en w' ⟨v, m, g, f, ⟨q, oa, oc, rfl, rfl, hg1⟩, rfl, hown, hfr, hmm, _, hf⟩
    exact ⟨q, oa, oc, f, rfl, hown 1 _ hg1, hfr, hf j hpin, hmm⟩
  · have e : HGOk W Try.prog Try.f9.ntmps (t9 W.W) body9 = (True ∧ (CustOk W Try.prog 31 (.region 1 opsA9 false) (FA9 W.W) ∧ ((True ∧ (CustOk W Try.prog 31 (.region 3 opsX9 true) (X9 W.W) ∧ True)) ∧ True))) := by kernel_rfl
    rw [e]
    exact ⟨trivial, custA9 W, ⟨trivial, custX9 W, trivial⟩, trivial⟩
  · intro b j' hb
    exact hj
  · intro i hi
    rw [hpin] at hi
    injection hi with hi
    exact ⟨hi, Nat.one_pos⟩
  · rw [show Try.f9.ntmps = 31 by kernel_rfl, whole9]
    intro q a0 c0 a1 c1
    have hq := q.property
    have hl : q.val.1.length ≤ 900 := by omega
    have hx0 : 0 ≤ q.val.2 ∧ q.val.2 ≤ 10000 := by omega
    have hnb : nb9 q.val.1.length = 4 * q.val.1.length := by unfold nb9; omega
    have hcP : cP W.W a n c k q.val.1 a0 c0 = true := by
      unfold cP cI
      rw [yes_of ⟨hr, rfl, hk.1, hk.2⟩, yes_of (show OkE (gE a0 c0 q.val.1) a0 q.val.1.length c0 from okE_mk)]
      rfl
    have hin : inB 0 q.val.2 = true := inB_mk (by omega)
    have hcG : cG9 W.W a n c q.val.1.length q.val.2 = true := by
      unfold cG9
      rw [okRow_of hr, hin]
      cases decide (((nb9 q.val.1.length : Nat) : Int) > 0) <;> rfl
    have hxs : unB (E9 a1 q.val.1.length c1 q.val.1).xs = encE q.val.1 := by
      unfold E9 encR'
      dsimp only
      rw [unB_bys, unE_ents, List.take_of_length_le (by omega)]
    have hctl : Ctl (unB (E9 a1 q.val.1.length c1 q.val.1).xs) := by
      rw [hxs]
      exact ctl_enc _
    have hxb : 0 ≤ x9 q.val.1.length q.val.2 ∧ x9 q.val.1.length q.val.2 ≤ 20000 := by
      unfold x9
      cases decide (((nb9 q.val.1.length : Nat) : Int) > 0)
      · rw [cond_false]; omega
      · rw [cond_true, gadd1 hin (by decide)]; omega
    constructor
    · intro hb r
      have hpos : 0 < nb9 q.val.1.length := by
        cases hd : decide (((nb9 q.val.1.length : Nat) : Int) > 0) with
        | true => have := of_decide_eq_true hd; omega
        | false => rw [hd, cond_false] at hb; cases hb
      refine ⟨?_, .inr rfl, [(false, [.sl a1 (nb9 q.val.1.length) c1])], .one (.sl a1 (nb9 q.val.1.length) c1), by kernel_rfl, rfl, ⟨(r.val.1, nb9 q.val.1.length, r.val.2), r.property, by dsimp only; omega⟩, a1, c1, rfl, rfl, rfl⟩
      rw [SB.val_sym, hcP, hcG]
      unfold cX
      rw [yes_of ⟨okZ_mk, hctl, hr, inB_mk (by omega), hpos, by omega⟩]
      rfl
    · intro _
      refine ⟨?_, .inr rfl, [(false, [.sl a1 (nb9 q.val.1.length) c1])], .one (.sl a1 (nb9 q.val.1.length) c1), by kernel_rfl, rfl, ⟨(encE q.val.1, nb9 q.val.1.length, x9 q.val.1.length q.val.2), ctl_enc _, by dsimp only; omega⟩, a1, c1, rfl, rfl, ?_⟩
      · rw [SB.val_sym, hcP, hcG]
        rfl
      · have e : (E9 a1 q.val.1.length c1 q.val.1) = gZ a1 (nb9 q.val.1.length) c1 (encE q.val.1) := by
          unfold E9 encR' gZ
          rw [unE_ents, List.take_of_length_le (by omega)]
          rfl
        show some (E9 a1 q.val.1.length c1 q.val.1) = _
        rw [e]
/-- 'Script(s, k)', s pointing to numbers of which none was taken. -/
noncomputable def scrF (W : World) (x : Nat) (y : Operand) (d : Nat) (s : SL) (m : Mem) (g : Gh) : RG := match Go.Sx.look s x, evalO (Go.Sx.look s) y with
  | some (.one (.ptr b 0)), some (.one (.int .i64 k)) => match m.get b 0, m.get b 1, Go.Sx.look m.blks b with
    | some (.sl a n c), some (.int .i64 x0), some j => match Nat.beq j.elem 46 && Nat.beq j.init.length 2 with
      | true => .pick scr0 fun q => .any fun oa oc => .leaf .nrm (.sym (yes (RowOk W .i64 a n c ∧ x0.val = 0 ∧ 0 ≤ k.val ∧ k.val ≤ 900))) (putS (some d) (.one (.sl oa q.val.2.1 oc)) s)
        ⟨(b, 1, .int .i64 (.sym q.val.2.2)) :: m.cells, m.blks, m.next⟩ (g ++ [gZ oa q.val.2.1 oc q.val.1])
      | false => .fail
    | _, _, _ => .fail
  | _, _ => .fail
theorem named9 : Named 9 := ⟨Try.f9, Try.func9, by kernel_rfl, by kernel_rfl⟩
theorem scrF_ok {W : Bs} {nt x d : Nat} {y : Operand} {o : Oper} (hdst : o.dst = some d) (hop : callOf o = some (.func 9, [.tmp x, y])) (hd : d < nt) : CallOk W Try.prog nt o (scrF W.W x y d) := by
  intro s m g f a w Q hgood h
  unfold scrF at hgood ⊢
  split at hgood <;> try exact hgood.elim
  rename_i b k hx hy
  split at hgood <;> try exact hgood.elim
  rename_i q n c x0 j hb0 hb1 hbj
  split at hgood <;> try exact hgood.elim
  rename_i hchk
  rw [Bool.and_eq_true, Nat.beq_eq, Nat.beq_eq] at hchk
  obtain ⟨hel, hlen⟩ := hchk
  obtain ⟨hr, hx0, hk0, hk1⟩ := of_yes (hgood scr0 none 0)
  obtain ⟨arr0, harr0, hsz0⟩ := h.mem.blk b j hbj
  rw [hel] at harr0
  rw [hlen] at hsz0
  have hblk : ∀ b' j', Go.Sx.look (nMem 46 q n c (.sym 0)).blks b' = some j' → b' = 0 ∧ j' = ⟨46, [.sl q n c, .int .i64 (.sym 0)], true⟩ := by
    intro b' j' hj
    simp only [nMem, look_cons, Go.Sx.look] at hj
    split at hj
    · rename_i hb
      simp only [Option.some.injEq] at hj
      exact ⟨hb.symm, hj.symm⟩
    · cases hj
  have hget : ∀ b' o v, (nMem 46 q n c (.sym 0)).get b' o = some v → b' = 0 ∧ ((o = 0 ∧ v = .sl q n c) ∨ (o = 1 ∧ v = .int .i64 (.sym 0))) := by
    intro b' o v hv
    simp only [nMem, Mem.get, findC, look_cons, Go.Sx.look] at hv
    by_cases hb : 0 = b'
    · simp only [hb, if_true] at hv
      rcases o with _ | _ | o
      · simp at hv; exact ⟨hb.symm, .inl ⟨rfl, hv.symm⟩⟩
      · simp at hv; exact ⟨hb.symm, .inr ⟨rfl, hv.symm⟩⟩
      · simp at hv
    · simp [hb] at hv
  have hm : MOk w (fun i => ∃ b' j', Go.Sx.look (nMem 46 q n c (.sym 0)).blks b' = some j' ∧ (fun _ => f b) b' = i) (fun _ => f b) (nMem 46 q n c (.sym 0)) w := by
    refine ⟨?_, ?_, ?_, ?_, ?_, ?_⟩
    · intro b' j' hj
      obtain ⟨_, rfl⟩ := hblk b' j' hj
      exact ⟨arr0, harr0, hsz0⟩
    · intro b' o v hv
      obtain ⟨_, ⟨rfl, rfl⟩ | ⟨rfl, rfl⟩⟩ := hget b' o v hv
      · exact h.mem.cell b 0 _ hb0
      · have h1 := h.mem.cell b 1 _ hb1
        rw [h1]
        show some (Value.int .i64 x0.val) = some (Value.int .i64 (SI.val (.sym 0)))
        rw [hx0]
        rfl
    · intro b' o v hv
      obtain ⟨rfl, _⟩ := hget b' o v hv
      exact ⟨_, rfl⟩
    · intro b' c' j k hj hk _
      rw [(hblk b' j hj).1, (hblk c' k hk).1]
    · intro b' j' hj _
      exact .inr ⟨b', j', hj, rfl⟩
    · intro b' j' hj
      rw [(hblk b' j' hj).1]
      exact Nat.zero_lt_one
  have hcalls := script9 ⟨W.W, w, fun i => i = f b, ⟨h.old, fun i hi => hi ▸ h.baseW hbj⟩, some (f b)⟩ (a := q) (n := n) (c := c) (k := k.val) (j := f b) rfl rfl hr ⟨hk0, hk1⟩ hm
  refine call_wp hop h.slots rfl (l := [.one (.ptr b 0), .one (.int .i64 k)]) ?_ named9 hcalls ?_
  · have e : evalO (Go.Sx.look s) (.tmp x) = some (.one (.ptr b 0)) := by simp only [evalO, hx]
    simp only [evalList, e, hy]
  · rintro en w' ⟨r, oa, oc, f', rfl, hown, hfr, hf0, hmm⟩
    obtain ⟨arr1, harr1, hsz1⟩ := hmm.blk 0 _ rfl
    have hc0 := hmm.cell 0 0 _ rfl
    have hc1 := hmm.cell 0 1 _ rfl
    rw [hf0] at harr1 hc0 hc1
    refine ⟨_, rfl, ?_⟩
    rw [hdst]
    refine ⟨r, oa, oc, rfl, f, ?_⟩
    exact callNum h hbj hel hlen hb0 hfr.os hfr.tape hfr.output hfr.size (fun i hi hne => hfr.same i hi hne) harr1 hsz1 hc0 hc1 hd (o := gZ oa r.val.2.1 oc r.val.1) hown
end Go.Proofs.Ytdfplmkaaodblaa.dc
