/- The call of Inputs among the operations of a region. -/
import Derived.Test.YtdfplmkaaodblaaMkN
namespace Go.Proofs.Ytdfplmkaaodblaa.dc
open Go Go.Sx Go.RowKit Go.Proofs.Ytdfplmkaaodblaa.mk
set_option maxRecDepth 100000
/-- Behind a call that turned one number of one block and laid new blocks. -/
theorem callNum {W : Bs} {nt : Nat} {s : SL} {m : Mem} {g : Gh} {f : Nat → Nat} {a : Act} {w w' : World} (h : GSt W nt s m g f a w) {b : Nat} {j : BI} (hb : Go.Sx.look m.blks b = some j) (hel : j.elem = 46) (hlen : j.init.length = 2)
    {q : Option Addr} {n c : Nat} {x : Int} (h0 : m.get b 0 = some (.sl q n c)) (hos : w'.os = w.os) (htp : w'.tape = w.tape) (hout : w'.output = w.output) (hsz : w.heap.size ≤ w'.heap.size) (hsame : ∀ i, i < w.heap.size → i ≠ f b → w'.heap[i]? = w.heap[i]?)
    {arr : Array Value} (harr : w'.heap[f b]? = some (.cells arr 46 (0, 0))) (hasz : arr.size = 2) (hc0 : w'.cell? ⟨f b, 0, none⟩ = some (.slice q n c)) (hc1 : w'.cell? ⟨f b, 1, none⟩ = some (.int .i64 x))
    {d : Nat} (hd : d < nt) {o : Own} (hown : w'.ownsRow w.heap.size o.e o.size o.v o.n o.vals) :
    GSt W nt (putS (some d) (.one (.sl o.a o.n o.c)) s) ⟨(b, 1, .int .i64 (.sym x)) :: m.cells, m.blks, m.next⟩ (g ++ [o]) f (a.put (some d) o.v) w' := by
  have hlt : ∀ b' j', Go.Sx.look m.blks b' = some j' → f b' < w.heap.size := fun b' j' hj => by
    obtain ⟨arr', harr', _⟩ := h.mem.blk b' j' hj
    exact lt_of_blk harr'
  have hother : ∀ b' j', Go.Sx.look m.blks b' = some j' → b' ≠ b → w'.heap[f b']? = w.heap[f b']? := fun b' j' hj hne => hsame _ (hlt b' j' hj) (fun hh => hne (h.mem.inj b' b j' j hj hb hh))
  have hget : ∀ b' o' v, (⟨(b, 1, .int .i64 (.sym x)) :: m.cells, m.blks, m.next⟩ : Mem).get b' o' = some v → (b' = b ∧ o' = 1 ∧ v = .int .i64 (.sym x)) ∨ (¬ (b' = b ∧ o' = 1) ∧ m.get b' o' = some v) := by
    intro b' o' v hv
    simp only [Mem.get, findC] at hv
    cases h1 : Nat.beq b b'
    · simp only [h1] at hv
      exact .inr ⟨fun hh => (Nat.ne_of_beq_eq_false h1) hh.1.symm, hv⟩
    · simp only [h1] at hv
      cases h2 : Nat.beq 1 o'
      · simp only [h2] at hv
        exact .inr ⟨fun hh => (Nat.ne_of_beq_eq_false h2) hh.2.symm, hv⟩
      · simp only [h2, Option.some.injEq] at hv
        exact .inl ⟨(Nat.eq_of_beq_eq_true h1).symm, (Nat.eq_of_beq_eq_true h2).symm, hv.symm⟩
  have hgo : ∀ (k : Nat) (p : Own), (g ++ [o])[k]? = some p → (k < g.length ∧ g[k]? = some p) ∨ (k = g.length ∧ p = o) := by
    intro k p hp
    by_cases hk : k < g.length
    · rw [List.getElem?_append_left hk] at hp; exact .inl ⟨hk, hp⟩
    · rw [List.getElem?_append_right (by omega)] at hp
      right
      rcases hk' : k - g.length with _ | k'
      · rw [hk'] at hp
        simp only [List.getElem?_cons_zero, Option.some.injEq] at hp
        exact ⟨by omega, hp.symm⟩
      · rw [hk'] at hp; simp at hp
  have hnew : ∀ k, o.v.ownBlock = some k → w.heap.size ≤ k := fun k hk => (World.ownsRow.lt hown k hk).1
  have hold : ∀ (q : Nat) (p : Own), g[q]? = some p → ∀ k, p.v.ownBlock = some k → k < w.heap.size := fun q p hp k hk => (World.ownsRow.lt (h.gh.own q p hp) k hk).2
  refine ⟨by simp [Act.put, h.size], by simp [Act.put, h.defers], h.slots.put h.size (by simp [dstOk, Nat.blt]; omega) (.inr rfl), ?_, h.base, ?_, h.pin, ?_, ?_, ?_⟩
  · refine ⟨?_, ?_, ?_, h.mem.inj, fun b j hj _ => .inr ⟨b, j, hj, rfl⟩, h.mem.lt⟩
    · intro b' j' hj
      by_cases hbb : b' = b
      · subst hbb
        rw [hb] at hj
        simp only [Option.some.injEq] at hj
        subst hj
        exact ⟨arr, by rw [harr, hel], by rw [hasz, hlen]⟩
      · rw [hother b' j' hj hbb]
        exact h.mem.blk b' j' hj
    · intro b' o' v hv
      rcases hget b' o' v hv with ⟨rfl, rfl, rfl⟩ | ⟨hne, hv2⟩
      · exact hc1
      · by_cases hbb : b' = b
        · subst hbb
          have hcell := h.mem.cell b' o' v hv2
          obtain ⟨arr', harr', hsz'⟩ := h.mem.blk b' j hb
          rw [hlen] at hsz'
          rcases o' with _ | _ | o'
          · rw [h0] at hv2
            simp only [Option.some.injEq] at hv2
            subst hv2
            exact hc0
          · exact absurd ⟨rfl, rfl⟩ hne
          · exfalso
            rw [cell_of_blk harr', Array.getElem?_eq_none (by omega)] at hcell
            cases hcell
        · obtain ⟨j', hj⟩ := h.mem.known b' o' v hv2
          rw [← h.mem.cell b' o' v hv2]
          exact World.cell?_of_block (hother b' j' hj hbb)
    · intro b' o' v hv
      rcases hget b' o' v hv with ⟨rfl, _, _⟩ | ⟨_, hv⟩
      · exact ⟨j, hb⟩
      · exact h.mem.known b' o' v hv
  · refine ⟨hos.trans h.fr.os, htp.trans h.fr.tape, hout.trans h.fr.output, Nat.le_trans h.fr.size hsz, fun k hk hx => ?_, W.base⟩
    refine (hsame k (Nat.lt_of_lt_of_le hk h.fr.size) (fun hh => ?_)).trans (h.fr.same k hk hx)
    rcases h.base b j hb with h1 | h1
    · omega
    · exact hx (hh ▸ h1)
  · intro k p hp
    rcases hgo k p hp with ⟨_, h2⟩ | ⟨_, rfl⟩
    · exact World.ownsRow.same (h.gh.own k p h2) (fun i hi => hsame i (hold k p h2 i hi) (fun hh => h.gh.off k p h2 i hi b j hb hh.symm))
    · exact World.ownsRow.base_le h.fr.size hown
  · intro k p hp i hi b' j' hj hf
    rcases hgo k p hp with ⟨_, h2⟩ | ⟨_, rfl⟩
    · exact h.gh.off k p h2 i hi b' j' hj hf
    · have := hlt b' j' hj
      have := hnew i hi
      omega
  · intro k k' p p' hp hp' hne i hi hi'
    rcases hgo k p hp with ⟨h2, h3⟩ | ⟨h2, rfl⟩ <;> rcases hgo k' p' hp' with ⟨h4, h5⟩ | ⟨h4, rfl⟩
    · exact h.gh.two k k' p p' h3 h5 hne i hi hi'
    · have := hold k p h3 i hi
      have := hnew i hi'
      omega
    · have := hold k' p' h5 i hi'
      have := hnew i hi
      omega
    · omega
/-- 'Inputs(s, k)', s pointing to numbers of which none was taken. -/
noncomputable def inF (W : World) (x : Nat) (y : Operand) (d : Nat) (s : SL) (m : Mem) (g : Gh) : RG := match Go.Sx.look s x, evalO (Go.Sx.look s) y with
  | some (.one (.ptr b 0)), some (.one (.int .i64 k)) => match m.get b 0, m.get b 1, Go.Sx.look m.blks b with
    | some (.sl a n c), some (.int .i64 x0), some j => match Nat.beq j.elem 46 && Nat.beq j.init.length 2 with
      | true => .pick (fullD (m21 W a n k.val)) fun q => .any fun oa oc => .leaf .nrm (.sym (yes (RowOk W .i64 a n c ∧ x0.val = 0 ∧ 0 ≤ k.val ∧ k.val ≤ 900))) (putS (some d) (.one (.sl oa q.val.1.length oc)) s)
        ⟨(b, 1, .int .i64 (.sym q.val.2)) :: m.cells, m.blks, m.next⟩ (g ++ [gE oa oc q.val.1])
      | false => .fail
    | _, _, _ => .fail
  | _, _ => .fail
theorem named21 : Named 21 := ⟨Try.f21, Try.func21, by kernel_rfl, by kernel_rfl⟩
theorem inF_ok {W : Bs} {nt x d : Nat} {y : Operand} {o : Oper} (hdst : o.dst = some d) (hop : callOf o = some (.func 21, [.tmp x, y])) (hd : d < nt) : CallOk W Try.prog nt o (inF W.W x y d) := by
  intro s m g f a w Q hgood h
  unfold inF at hgood ⊢
  split at hgood <;> try exact hgood.elim
  rename_i b k hx hy
  split at hgood <;> try exact hgood.elim
  rename_i q n c x0 j hb0 hb1 hbj
  split at hgood <;> try exact hgood.elim
  rename_i hchk
  rw [Bool.and_eq_true, Nat.beq_eq, Nat.beq_eq] at hchk
  obtain ⟨hel, hlen⟩ := hchk
  obtain ⟨hr, hx0, hk0, hk1⟩ := of_yes (hgood (fullD _) none 0)
  obtain ⟨arr0, harr0, hsz0⟩ := h.mem.blk b j hbj
  rw [hel] at harr0
  rw [hlen] at hsz0
  have hblk : ∀ b' j', Go.Sx.look (nMem 46 q n c (.sym 0)).blks b' = some j' → b' = 0 ∧ j' = ⟨46, [.sl q n c, .int .i64 (.sym 0)], true⟩ := by
    intro b' j' hj
    simp only [nMem, look_cons, Go.Sx.look] at hj
    split at hj
    · rename_i hb
      simp only [Option.some.injEq] at hj
      exact ⟨hb.symm, hj.symm⟩
    · cases hj
  have hget : ∀ b' o v, (nMem 46 q n c (.sym 0)).get b' o = some v → b' = 0 ∧ ((o = 0 ∧ v = .sl q n c) ∨ (o = 1 ∧ v = .int .i64 (.sym 0))) := by
    intro b' o v hv
    simp only [nMem, Mem.get, findC, look_cons, Go.Sx.look] at hv
    by_cases hb : 0 = b'
    · simp only [hb, if_true] at hv
      rcases o with _ | _ | o
      · simp at hv; exact ⟨hb.symm, .inl ⟨rfl, hv.symm⟩⟩
      · simp at hv; exact ⟨hb.symm, .inr ⟨rfl, hv.symm⟩⟩
      · simp at hv
    · simp [hb] at hv
  have hm : MOk w (fun i => ∃ b' j', Go.Sx.look (nMem 46 q n c (.sym 0)).blks b' = some j' ∧ (fun _ => f b) b' = i) (fun _ => f b) (nMem 46 q n c (.sym 0)) w := by
    refine ⟨?_, ?_, ?_, ?_, ?_, ?_⟩
    · intro b' j' hj
      obtain ⟨_, rfl⟩ := hblk b' j' hj
      exact ⟨arr0, harr0, hsz0⟩
    · intro b' o v hv
      obtain ⟨_, ⟨rfl, rfl⟩ | ⟨rfl, rfl⟩⟩ := hget b' o v hv
      · exact h.mem.cell b 0 _ hb0
      · have h1 := h.mem.cell b 1 _ hb1
        rw [h1]
        show some (Value.int .i64 x0.val) = some (Value.int .i64 (SI.val (.sym 0)))
        rw [hx0]
        rfl
    · intro b' o v hv
      obtain ⟨rfl, _⟩ := hget b' o v hv
      exact ⟨_, rfl⟩
    · intro b' c' j k hj hk _
      rw [(hblk b' j hj).1, (hblk c' k hk).1]
    · intro b' j' hj _
      exact .inr ⟨b', j', hj, rfl⟩
    · intro b' j' hj
      rw [(hblk b' j' hj).1]
      exact Nat.zero_lt_one
  have hcalls := inputs21 ⟨W.W, w, fun i => i = f b, ⟨h.old, fun i hi => hi ▸ h.baseW hbj⟩, some (f b)⟩ (a := q) (n := n) (c := c) (k := k.val) (j := f b) rfl rfl hr ⟨hk0, hk1⟩ hm
  refine call_wp hop h.slots rfl (l := [.one (.ptr b 0), .one (.int .i64 k)]) ?_ named21 hcalls ?_
  · have e : evalO (Go.Sx.look s) (.tmp x) = some (.one (.ptr b 0)) := by simp only [evalO, hx]
    simp only [evalList, e, hy]
  · rintro en w' ⟨r, oa, oc, f', rfl, hown, hfr, hf0, hmm⟩
    obtain ⟨arr1, harr1, hsz1⟩ := hmm.blk 0 _ rfl
    have hc0 := hmm.cell 0 0 _ rfl
    have hc1 := hmm.cell 0 1 _ rfl
    rw [hf0] at harr1 hc0 hc1
    refine ⟨_, rfl, ?_⟩
    rw [hdst]
    refine ⟨r, oa, oc, rfl, f, ?_⟩
    exact callNum h hbj hel hlen hb0 hfr.os hfr.tape hfr.output hfr.size (fun i hi hne => hfr.same i hi hne) harr1 hsz1 hc0 hc1 hd (o := gE oa oc r.val.1) hown
end Go.Proofs.Ytdfplmkaaodblaa.dc
