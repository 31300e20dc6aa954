/- Reading and writing one's own rows: the operations of a region. -/
import Derived.Test.YtdfplmkaaodblaaMkS
namespace Go.Proofs.Ytdfplmkaaodblaa.dc
open Go Go.Sx Go.RowKit
set_option maxRecDepth 100000
theorem own_set {w : World} {B e size b n c : Nat} {xs : List Value} (h : w.ownsRow B e size (.slice (some ⟨b, 0, none⟩) n c) n xs) (o : Nat) (u : Value) : (w.setCell ⟨b, o, none⟩ u).ownsRow B e size (.slice (some ⟨b, 0, none⟩) n c) n (xs.set o u) := by
  obtain ⟨h1, ⟨h2, _⟩ | ⟨b', cap, cur, h3, h4, h5, h6, h7, h8, h9⟩⟩ := h
  · cases h2
  · injection h3 with h10 _ h11
    injection h10 with h10
    injection h10 with h10
    subst h10 h11
    refine ⟨by rw [List.length_set]; exact h1, .inr ⟨b, c, cur.setIfInBounds o u, rfl, h4, ?_, h6, h7, by rw [Array.size_setIfInBounds]; exact h8, ?_⟩⟩
    · simp only [World.setCell, Array.getElem?_modify, if_true, h5, Option.map_some]
      rfl
    · rw [Array.toList_setIfInBounds, List.take_set, h9]
theorem setCell_far {w : World} {b o k : Nat} {u : Value} (h : k ≠ b) : (w.setCell ⟨b, o, none⟩ u).heap[k]? = w.heap[k]? := by
  simp only [World.setCell, Array.getElem?_modify]
  rw [if_neg (fun hh => h hh.symm)]
theorem setCell_size {w : World} {q : Addr} {u : Value} : (w.setCell q u).heap.size = w.heap.size := by simp only [World.setCell, Array.size_modify]
/-- Several cells, one behind the other. -/
def setAll (w : World) (b : Nat) : Nat → List Value → World
  | _, [] => w
  | o, v :: r => setAll (w.setCell ⟨b, o, none⟩ v) b (o + 1) r
def setL : List Value → Nat → List Value → List Value
  | xs, _, [] => xs
  | xs, o, v :: r => setL (xs.set o v) (o + 1) r
theorem own_setAll {B e size b n c : Nat} : ∀ (vs : List Value) {w : World} {xs : List Value} (_ : w.ownsRow B e size (.slice (some ⟨b, 0, none⟩) n c) n xs) (o : Nat), (setAll w b o vs).ownsRow B e size (.slice (some ⟨b, 0, none⟩) n c) n (setL xs o vs)
  | [], _, _, h, _ => h
  | v :: r, _, _, h, o => own_setAll r (own_set h o v) (o + 1)
theorem setAll_far {b k : Nat} (h : k ≠ b) : ∀ (vs : List Value) {w : World} (o : Nat), (setAll w b o vs).heap[k]? = w.heap[k]?
  | [], _, _ => rfl
  | _ :: r, _, o => (setAll_far h r (o + 1)).trans (setCell_far h)
theorem setAll_same {b : Nat} : ∀ (vs : List Value) {w : World} (o : Nat), (setAll w b o vs).heap.size = w.heap.size ∧ (setAll w b o vs).os = w.os ∧ (setAll w b o vs).tape = w.tape ∧ (setAll w b o vs).output = w.output
  | [], _, _ => ⟨rfl, rfl, rfl, rfl⟩
  | _ :: r, _, o => by
    obtain ⟨h1, h2, h3, h4⟩ := setAll_same r (w := World.setCell _ ⟨b, o, none⟩ _) (o + 1)
    exact ⟨h1.trans setCell_size, h2, h3, h4⟩
theorem ws_cat (f : Nat → Nat) (b : Nat) : ∀ (l : List SV) (o : Nat) (acc : List (Nat × Nat × SV)) (w : World), applyWs f (wsOf b o l acc) w = setAll (applyWs f acc w) (f b) o (l.map (SV.den f))
  | [], _, _, _ => rfl
  | v :: r, o, acc, w => by
    rw [wsOf, ws_cat f b r (o + 1) ((b, o, v) :: acc) w]
    rfl
/-- Behind a write into an own row. -/
theorem ownWrite {W : Bs} {nt : Nat} {s : SL} {m : Mem} {g : Gh} {f : Nat → Nat} {a : Act} {w w' : World} (h : GSt W nt s m g f a w) {i : Nat} {o o' : Own} (hi : g[i]? = some o) {b : Nat} (hb : o.v.ownBlock = some b) (hb' : o'.v.ownBlock = some b)
    (hos : w'.os = w.os) (htp : w'.tape = w.tape) (hout : w'.output = w.output) (hsz : w'.heap.size = w.heap.size) (hsame : ∀ k, k ≠ b → w'.heap[k]? = w.heap[k]?) (hown : o'.rel W.w0.heap.size w') : GSt W nt s m (g.set i o') f a w' := by
  have hlt := World.ownsRow.lt (h.gh.own i o hi) b hb
  have hne : ∀ b' j, Go.Sx.look m.blks b' = some j → f b' ≠ b := fun b' j hj => h.gh.off i o hi b hb b' j hj
  have hget : ∀ (q : Nat) (p : Own), (g.set i o')[q]? = some p → (q = i ∧ p = o') ∨ (q ≠ i ∧ g[q]? = some p) := by
    intro q p hp
    rw [List.getElem?_set] at hp
    by_cases hq : i = q
    · subst hq
      rw [if_pos rfl] at hp
      split at hp
      · simp only [Option.some.injEq] at hp
        exact .inl ⟨rfl, hp.symm⟩
      · cases hp
    · rw [if_neg hq] at hp
      exact .inr ⟨fun hh => hq hh.symm, hp⟩
  refine ⟨h.size, h.defers, h.slots, ?_, h.base, ?_, h.pin, ?_, ?_, ?_⟩
  · refine ⟨?_, ?_, h.mem.known, h.mem.inj, fun b j hj _ => .inr ⟨b, j, hj, rfl⟩, h.mem.lt⟩
    · intro b' j hj
      rw [hsame _ (hne b' j hj)]
      exact h.mem.blk b' j hj
    · intro b' k v hv
      obtain ⟨j, hj⟩ := h.mem.known b' k v hv
      rw [← h.mem.cell b' k v hv]
      exact World.cell?_of_block (hsame _ (hne b' j hj))
  · exact ⟨hos.trans h.fr.os, htp.trans h.fr.tape, hout.trans h.fr.output, by rw [hsz]; exact h.fr.size, fun k hk hx => (hsame k (fun hh => by omega)).trans (h.fr.same k hk hx), W.base⟩
  · intro q p hp
    rcases hget q p hp with ⟨_, rfl⟩ | ⟨hq, hp⟩
    · exact hown
    · exact World.ownsRow.same (h.gh.own q p hp) (fun k hk => hsame k (fun hh => h.gh.two q i p o hp hi hq k hk (hh ▸ hb)))
  · intro q p hp k hk
    rcases hget q p hp with ⟨_, rfl⟩ | ⟨hq, hp⟩
    · rw [hb'] at hk
      simp only [Option.some.injEq] at hk
      subst hk
      exact fun b' j hj => hne b' j hj
    · exact h.gh.off q p hp k hk
  · intro q q' p p' hp hp' hqq k hk hk'
    rcases hget q p hp with ⟨h1, rfl⟩ | ⟨h1, h3⟩ <;> rcases hget q' p' hp' with ⟨h2, rfl⟩ | ⟨h2, h4⟩
    · exact hqq (h1.trans h2.symm)
    · rw [hb'] at hk
      exact h.gh.two i q' o p' hi h4 (fun hh => h2 hh.symm) k (hb.trans hk) hk'
    · rw [hb'] at hk'
      exact h.gh.two q i p o h3 hi h1 k hk (hb.trans hk')
    · exact h.gh.two q q' p p' h3 h4 hqq k hk hk'
/-- Where a row lies. -/
structure Lies (o : Own) (a : Option Addr) (n c : Nat) (x : Int) : Prop where
  ea : a = o.a
  en : n = o.n
  ec : c = o.c
  lo : 0 ≤ x
  hi : x < (n : Int)
theorem own_addr {o : Own} {B : Nat} {w : World} (h : o.rel B w) (hn : 0 < o.n) : ∃ b, o.a = some ⟨b, 0, none⟩ ∧ o.v.ownBlock = some b := by
  obtain ⟨_, ⟨_, h2⟩ | ⟨b, cap, cur, h3, _⟩⟩ := h
  · omega
  · unfold Own.v at h3
    injection h3 with h4
    exact ⟨b, h4, by unfold Own.v; rw [h4]; rfl⟩
section
variable {W : Bs} {nt x y z d i size t e : Nat} {o : Oper}
/-- The address of an element. -/
noncomputable def ixO (i size x y d : Nat) (s : SL) (m : Mem) (g : Gh) : RG := match Go.Sx.look s x, Go.Sx.look s y, g[i]? with
  | some (.one (.sl a n c)), some (.one (.int .i64 v)), some o => .leaf .nrm (.sym (yes (Lies o a n c v.val))) (putS (some d) (.one (.pa (atRow a v.val size))) s) m g
  | _, _, _ => .fail
theorem ixO_ok (hdst : o.dst = some d) (hop : o.op = .indexAddr t (.tmp x) (.tmp y)) (hd : d < nt) (ht : Try.prog.underlying t = some (.slice e)) (hs : sizeT Try.prog e = some size) : CallOk W Try.prog nt o (ixO i size x y d) := by
  intro s m g f a w Q hgood h
  unfold ixO at hgood ⊢
  split at hgood <;> try exact hgood.elim
  rename_i q n c v o1 hx hy hi
  have hl := of_yes (p := Lies o1 q n c v.val) hgood
  have hown := h.gh.own i o1 hi
  obtain ⟨b, ha, _⟩ := own_addr hown (by have := hl.en; have := hl.lo; have := hl.hi; omega)
  have hr : inRow q n v.val = true := by
    unfold inRow
    rw [hl.ea, ha, decide_eq_true hl.lo, decide_eq_true hl.hi]
    rfl
  have hp : (prim Try.prog W.W o 0 (Go.Sx.look s) (fun _ _ => none) (fun _ => none)).get = some ⟨.sym (inRow q n v.val), .one (.pa (atRow q v.val size)), [], none⟩ := by
    simp only [prim, hop, evalO, hx, hy, ht, hs]
    rfl
  obtain ⟨r, u, hrun, hr', hval, _, _⟩ := prim_indexAddr (w := w) (f := f) (nid := 0) (a := a) hop hp hr h.slots
  rw [show effW f ⟨.sym (inRow q n v.val), .one (.pa (atRow q v.val size)), [], none⟩ w = w from rfl] at hrun
  have hu : u = (TV.one (.pa (atRow q v.val size))).den f := by
    rcases hval with hval | hval
    · cases hval
    · exact hval
  have hrv : r = .value u := by
    rcases hr' with rfl | ⟨_, h2⟩
    · rfl
    · rw [hu] at h2
      cases h2
  subst hrv
  unfold Oper.wp
  rw [hrun, Oper.upon_value]
  refine ⟨rfl, f, ?_⟩
  rw [hdst]
  exact h.call (.refl _ _) hd hu
/-- A byte of an own row. -/
noncomputable def ldB (i x y d : Nat) (s : SL) (m : Mem) (g : Gh) : RG := match Go.Sx.look s x, Go.Sx.look s y, g[i]? with
  | some (.one (.pa q)), some (.one (.int .i64 v)), some o => .leaf .nrm (.sym (yes (OkZ o o.a o.n o.c ∧ Lies o o.a o.n o.c v.val ∧ q = atRow o.a v.val 1))) (putS (some d) (.one (.int .u8 (.sym ((unB o.xs).getD v.val.toNat 0)))) s) m g
  | _, _, _ => .fail
theorem ldB_ok (hdst : o.dst = some d) (hop : o.op = .load 5 (.tmp x)) (hd : d < nt) : CallOk W Try.prog nt o (ldB i x y d) := by
  intro s m g f a w Q hgood h
  unfold ldB at hgood ⊢
  split at hgood <;> try exact hgood.elim
  rename_i q v o1 hx hy hi
  obtain ⟨hz, hl, hq⟩ := of_yes (p := OkZ o1 o1.a o1.n o1.c ∧ Lies o1 o1.a o1.n o1.c v.val ∧ q = atRow o1.a v.val 1) hgood
  have hown := h.gh.own i o1 hi
  have hrow := hz.row hown
  have hlo := hl.lo
  have hhi := hl.hi
  have hlen := hrow.len
  have hget : (unB o1.xs)[v.val.toNat]? = some ((unB o1.xs).getD v.val.toNat 0) := by
    rw [List.getD, List.getElem?_eq_getElem (by omega)]
    rfl
  have hcell := isInt_of (hrow.at_ _ _ hget)
  have hqq : q = (o1.a.getD default).add v.val.toNat := by rw [hq, atRow, Nat.mul_one]
  rw [← hqq] at hcell
  have hp : (prim Try.prog w o 0 (Go.Sx.look s) (fun _ _ => none) (fun _ => none)).get = some ⟨.sym (isInt w .u8 q), .one (.int .u8 (.sym (rdInt w q))), [], none⟩ := by
    simp only [prim, hop, evalO, hx]
    kernel_rfl
  obtain ⟨r, u, hrun, hr', hval, _, _⟩ := prim_load (w := w) (f := f) (nid := 0) (a := a) hop hp hcell.1 h.slots (by intro b k v hv; cases hv) (Old.refl w)
  rw [show effW f ⟨.sym (isInt w .u8 q), .one (.int .u8 (.sym (rdInt w q))), [], none⟩ w = w from rfl] at hrun
  have hu : u = (TV.one (.int .u8 (.sym ((unB o1.xs).getD v.val.toNat 0)))).den f := by
    rcases hval with hval | hval
    · cases hval
    · rw [hval, ← hcell.2]
      rfl
  have hrv : r = .value u := by
    rcases hr' with rfl | ⟨_, h2⟩
    · rfl
    · rw [hu] at h2
      cases h2
  subst hrv
  unfold Oper.wp
  rw [hrun, Oper.upon_value]
  refine ⟨rfl, f, ?_⟩
  rw [hdst]
  exact h.call (.refl _ _) hd hu
/-- A store into an own row, whatever is stored. -/
theorem store_own {P : Program} {t : TypeId} {x z : Nat} {nt : Nat} {o : Oper} (hdst : o.dst = none) (hop : o.op = .store t (.tmp x) (.tmp z)) (hxz : Nat.beq z x = false) {s : SL} {m : Mem} {g : Gh} {f : Nat → Nat} {a : Act} {w : World} (h : GSt W nt s m g f a w) {i : Nat} {o1 : Own} (hi : g[i]? = some o1)
    {v : TV} {l : List SV} (hz : Go.Sx.look s z = some v) (hv : v.cells = some l) (hden : ∀ f', v.den f' = v.den f) (hden2 : ∀ f', l.map (SV.den f') = l.map den0) (hne : v ≠ .un) (hs : sizeT P t = some l.length) {k : Nat} (hk : k * o1.size + l.length ≤ o1.n * o1.size) (hpos : 0 < o1.n) {q : Addr} (hx : Go.Sx.look s x = some (.one (.pa q))) (hq : q = (o1.a.getD default).add (k * o1.size))
    {o' : Own} (ho' : o'.a = o1.a ∧ o'.n = o1.n ∧ o'.c = o1.c ∧ o'.e = o1.e ∧ o'.size = o1.size) (hxs : o'.vals = setL o1.vals (k * o1.size) (l.map den0)) {Q : Exit → Act → World → Prop} {R : Act → World → Prop} (hR : ∀ w', GSt W nt s m (g.set i o') f a w' → R a w') : o.wp P a w R Q := by
  have hown := h.gh.own i o1 hi
  obtain ⟨b, ha, hb⟩ := own_addr hown hpos
  obtain ⟨_, ⟨_, h2⟩ | ⟨b', cap, cur, h3, h4, h5, h6, h7, h8, h9⟩⟩ := id hown
  · omega
  unfold Own.v at h3
  rw [ha] at h3
  injection h3 with h10 _ h11
  injection h10 with h10
  injection h10 with h10
  subst h10
  have hqe : q = ⟨b, k * o1.size, none⟩ := by
    rw [hq, ha]
    simp [Addr.add]
    exact fun hh => hh.symm
  have hxx : Nat.beq x x = true := Nat.beq_refl x
  have hzz : Nat.beq z z = true := Nat.beq_refl z
  have hS : SRel (fun _ => b) (fun t => match Nat.beq t x with
      | true => some (.one (.ptr 0 (k * o1.size)))
      | false => match Nat.beq t z with
        | true => some v
        | false => none) a := by
    intro t u hu hun
    dsimp only at hu
    split at hu
    · rename_i ht
      have := Nat.eq_of_beq_eq_true ht
      subst this
      simp only [Option.some.injEq] at hu
      subst hu
      rw [h.slots t _ hx (by simp), hqe]
      rfl
    · split at hu
      · rename_i ht
        have := Nat.eq_of_beq_eq_true ht
        subst this
        simp only [Option.some.injEq] at hu
        subst hu
        rw [h.slots t _ hz hun]
        exact (hden _).symm
      · cases hu
  have hK : KRel (fun _ => b) (fun b' => match Nat.beq b' 0 with
      | true => some ⟨o1.e, List.replicate cur.size (.int .u8 (.lit 0)), true⟩
      | false => none) w := by
    intro b' j hj
    dsimp only at hj
    split at hj
    · simp only [Option.some.injEq] at hj
      subst hj
      exact ⟨cur, h5, by rw [List.length_replicate]⟩
    · cases hj
  have hcs : k * o1.size + l.length ≤ cur.size := by
    rw [h8]
    exact Nat.le_trans hk (Nat.mul_le_mul_right _ h6)
  have hp : (prim P w o 0 (fun t => match Nat.beq t x with
      | true => some (.one (.ptr 0 (k * o1.size)))
      | false => match Nat.beq t z with
        | true => some v
        | false => none) (fun _ _ => none) (fun b' => match Nat.beq b' 0 with
      | true => some ⟨o1.e, List.replicate cur.size (.int .u8 (.lit 0)), true⟩
      | false => none)).get = some ⟨.lit true, .un, wsOf 0 (k * o1.size) l [], none⟩ := by
    have hle : Nat.ble (k * o1.size + l.length) cur.size = true := by rw [Nat.ble_eq]; exact hcs
    cases v with
    | un => cases hv
    | ud => cases hv
    | tup l => cases hv
    | one u =>
      simp only [prim, hop, evalO, hxx, hxz, hzz, hv, hs, Nat.beq_refl, List.length_replicate, hle, Bool.and_self]
      rfl
    | agg l' =>
      simp only [prim, hop, evalO, hxx, hxz, hzz, hv, hs, Nat.beq_refl, List.length_replicate, hle, Bool.and_self]
      rfl
  obtain ⟨r, u, hrun, hr', _, _, _⟩ := prim_store (w := w) (f := fun _ => b) (nid := 0) (a := a) hop hp hS hK
  rw [show effW (fun _ => b) ⟨.lit true, .un, wsOf 0 (k * o1.size) l [], none⟩ w = applyWs (fun _ => b) (wsOf 0 (k * o1.size) l []) w from rfl, ws_cat, hden2] at hrun
  have hnew : GSt W nt s m (g.set i o') f a (setAll w b (k * o1.size) (l.map den0)) := by
    obtain ⟨e1, e2, e3, e4⟩ := setAll_same (b := b) (l.map den0) (w := w) (k * o1.size)
    refine ownWrite h hi hb ?_ e2 e3 e4 e1 (fun j hj => setAll_far hj _ _) ?_
    · unfold Own.v
      rw [ho'.1, ha]
      rfl
    · unfold Own.rel Own.v
      rw [hxs, ho'.1, ho'.2.1, ho'.2.2.1, ho'.2.2.2.1, ho'.2.2.2.2, ha]
      have h12 := hown
      unfold Own.rel Own.v at h12
      rw [ha] at h12
      exact own_setAll _ h12 _
  unfold Oper.wp
  rw [hrun]
  rcases hr' with rfl | ⟨rfl, rfl⟩
  · rw [Oper.upon_value, hdst]
    exact hR _ hnew
  · rw [Oper.upon_skip, hdst]
    exact hR _ hnew
theorem sizeT5 : sizeT Try.prog 5 = some 1 := by kernel_rfl
theorem sizeT32 : sizeT Try.prog 32 = some 10 := by kernel_rfl
/-- A byte of an own row is written. -/
noncomputable def stB (i x y z : Nat) (s : SL) (m : Mem) (g : Gh) : RG := match Go.Sx.look s x, Go.Sx.look s y, Go.Sx.look s z, g[i]? with
  | some (.one (.pa q)), some (.one (.int .i64 v)), some (.one (.int .u8 u)), some o => .leaf .nrm (.sym (yes (OkZ o o.a o.n o.c ∧ Lies o o.a o.n o.c v.val ∧ q = atRow o.a v.val 1))) s m (g.set i { o with xs := bys ((unB o.xs).set v.val.toNat u.val) })
  | _, _, _, _ => .fail
theorem set_bys (zs : List Int) (k : Nat) (u : Int) : (bys (zs.set k u)).map den0 = ((bys zs).map den0).set k (.int .u8 u) := by
  unfold bys
  rw [List.map_set, List.map_set]
  rfl
theorem stB_ok (hdst : o.dst = none) (hop : o.op = .store 5 (.tmp x) (.tmp z)) (hxz : Nat.beq z x = false) : CallOk W Try.prog nt o (stB i x y z) := by
  intro s m g f a w Q hgood h
  unfold stB at hgood ⊢
  split at hgood <;> try exact hgood.elim
  rename_i q v u o1 hx hy hz hi
  obtain ⟨hok, hl, hq⟩ := of_yes (p := OkZ o1 o1.a o1.n o1.c ∧ Lies o1 o1.a o1.n o1.c v.val ∧ q = atRow o1.a v.val 1) hgood
  have hlo := hl.lo
  have hhi := hl.hi
  refine store_own hdst hop hxz h hi (o' := { o1 with xs := bys ((unB o1.xs).set v.val.toNat u.val) }) hz (l := [.int .u8 u]) rfl (fun _ => rfl) (fun _ => rfl) (by simp) sizeT5 (k := v.val.toNat) ?_ (by omega) hx ?_ ⟨rfl, rfl, rfl, rfl, rfl⟩ ?_ (fun w' h' => ⟨rfl, f, h'⟩)
  · rw [hok.size, List.length_singleton]
    omega
  · rw [hq, hok.size]
    rfl
  · unfold Own.vals
    rw [hok.size, Nat.mul_one]
    have e1 : o1.xs.map (SV.den fun _ => 0) = (bys (unB o1.xs)).map den0 := congrArg _ hok.xs
    rw [e1]
    exact set_bys _ _ _
theorem setL_at : ∀ (vs pre mid post : List Value), mid.length = vs.length → setL (pre ++ (mid ++ post)) pre.length vs = pre ++ (vs ++ post)
  | [], pre, mid, post, h => by
    have := List.eq_nil_of_length_eq_zero h
    subst this
    rfl
  | v :: r, pre, [], post, h => by simp at h
  | v :: r, pre, u :: mid, post, h => by
    rw [setL, List.cons_append, List.set_append_right _ _ (Nat.le_refl _), Nat.sub_self, List.set_cons_zero]
    have e1 : pre ++ v :: (mid ++ post) = (pre ++ [v]) ++ (mid ++ post) := by simp
    rw [e1, show pre.length + 1 = (pre ++ [v]).length by simp, setL_at r (pre ++ [v]) mid post (by simpa using h)]
    simp
theorem set_ents : ∀ (es : List Ent) (k : Nat) (e : Ent), k < es.length → (ents (es.set k e)).map den0 = setL ((ents es).map den0) (10 * k) (e.L.map den0) := by
  intro es k e hk
  have h1 : es = es.take k ++ (es[k] :: es.drop (k + 1)) := by rw [List.getElem_cons_drop, List.take_append_drop]
  have h2 : es.set k e = es.take k ++ (e :: es.drop (k + 1)) := List.set_eq_take_append_cons_drop.trans (if_pos hk)
  have h3 : ents es = ents (es.take k) ++ (es[k].L ++ ents (es.drop (k + 1))) := by
    conv => lhs; rw [h1]
    rw [ents_append]
    rfl
  rw [h2, h3, ents_append, List.map_append, List.map_append, List.map_append]
  have h4 : 10 * k = ((ents (es.take k)).map den0).length := by rw [List.length_map, ents_length, List.length_take, Nat.min_eq_left (by omega)]
  rw [h4, setL_at _ _ _ _ (by rfl), ents, List.map_append]
theorem oneS_den {v : SV} (h : oneS v = true) (f f' : Nat → Nat) : v.den f = v.den f' := by
  cases v <;> first | rfl | exact absurd h (by simp [oneS])
/-- An entry of an own row is written. -/
def entOf (l : List SV) : Ent := match unE l with
  | e :: _ => e
  | [] => idleE
noncomputable def stE (i x y z : Nat) (s : SL) (m : Mem) (g : Gh) : RG := match Go.Sx.look s x, Go.Sx.look s y, Go.Sx.look s z, g[i]? with
  | some (.one (.pa q)), some (.one (.int .i64 v)), some (.agg l), some o => .leaf .nrm (.sym (yes (OkE o o.a o.n o.c ∧ Lies o o.a o.n o.c v.val ∧ q = atRow o.a v.val 10 ∧ allB oneS l = true ∧ l.map den0 = (entOf l).L.map den0))) s m (g.set i { o with xs := ents ((unE o.xs).set v.val.toNat (entOf l)) })
  | _, _, _, _ => .fail
theorem stE_ok (hdst : o.dst = none) (hop : o.op = .store 32 (.tmp x) (.tmp z)) (hxz : Nat.beq z x = false) : CallOk W Try.prog nt o (stE i x y z) := by
  intro s m g f a w Q hgood h
  unfold stE at hgood ⊢
  split at hgood <;> try exact hgood.elim
  rename_i q v l o1 hx hy hz hi
  obtain ⟨hok, hl, hq, hone, hval⟩ := of_yes (p := OkE o1 o1.a o1.n o1.c ∧ Lies o1 o1.a o1.n o1.c v.val ∧ q = atRow o1.a v.val 10 ∧ allB oneS l = true ∧ l.map den0 = (entOf l).L.map den0) hgood
  have hlo := hl.lo
  have hhi := hl.hi
  have hll : l.length = 10 := by
    have := congrArg List.length hval
    rw [List.length_map, List.length_map] at this
    exact this
  have hrow := hok.row (h.gh.own i o1 hi)
  have hlen := hrow.len
  have hm : ∀ f', l.map (SV.den f') = l.map den0 := fun f' => List.map_congr_left fun u hu => oneS_den (allB_iff hone u hu) _ _
  refine store_own hdst hop hxz h hi (o' := { o1 with xs := ents ((unE o1.xs).set v.val.toNat (entOf l)) }) hz (l := l) rfl (fun f' => ?_) hm (by simp) (by rw [hll]; exact sizeT32) (k := v.val.toNat) ?_ (by omega) hx ?_ ⟨rfl, rfl, rfl, rfl, rfl⟩ ?_ (fun w' h' => ⟨rfl, f, h'⟩)
  · show Value.agg (l.map (SV.den f')).toArray = Value.agg (l.map (SV.den f)).toArray
    rw [hm f', hm f]
  · rw [hok.size, hll]
    omega
  · rw [hq, hok.size]
    rfl
  · unfold Own.vals
    have e1 : o1.xs.map (SV.den fun _ => 0) = (ents (unE o1.xs)).map den0 := congrArg _ hok.xs
    rw [hok.size, Nat.mul_comm, e1, hval]
    exact set_ents _ _ _ (by omega)
end
end Go.Proofs.Ytdfplmkaaodblaa.dc
