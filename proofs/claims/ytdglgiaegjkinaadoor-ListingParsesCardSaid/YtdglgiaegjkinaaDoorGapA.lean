/- Slices that the code itself makes: what is known of them beside the executor's state; trees with a value that is not known. No program of the seat is named here. -/
import Derived.Test.YtdglgiaegjkinaaDoorEngK
import Derived.Test.YtdglgiaegjkinaaDoorLaw
import Derived.Laws.AppendOwn
import Derived.OwnWalk
import Derived.Maps.AppendAt
namespace Go.Sx
open Go Go.RowKit

/-- A slice of its own block, with its cells (no pointers among them). -/
structure Own where
  e : TypeId
  size : Nat
  a : Option Addr
  n : Nat
  c : Nat
  xs : List SV
def Own.v (o : Own) : Value := .slice o.a o.n o.c
def Own.vals (o : Own) : List Value := o.xs.map (SV.den fun _ => 0)
def Own.rel (B : Nat) (w : World) (o : Own) : Prop := w.ownsRow B o.e o.size o.v o.n o.vals
abbrev Gh := List Own

/-- None lies in a block of the executor's, no two in one. -/
structure GRel (B : Nat) (g : Gh) (f : Nat → Nat) (m : Mem) (w : World) : Prop where
  own : ∀ (q : Nat) (o : Own), g[q]? = some o → o.rel B w
  off : ∀ (q : Nat) (o : Own), g[q]? = some o → ∀ k, o.v.ownBlock = some k → ∀ b i, look m.blks b = some i → f b ≠ k
  two : ∀ (q q' : Nat) (o p : Own), g[q]? = some o → g[q']? = some p → q ≠ q' → ∀ k, o.v.ownBlock = some k → p.v.ownBlock ≠ some k

/-- What a piece of code starts from: the oldest world, out of which values are told; the world at the function's start; what blocks of it may be written; where the block 0 lies, if that is to be kept in mind. -/
structure Bs where
  W : World
  w0 : World
  X : Nat → Prop
  base : Base W w0 X
  pin : Option Nat
def Bs.of (W : World) : Bs := ⟨W, W, fun _ => False, (Old.refl W).base, none⟩
instance : Coe World Bs := ⟨Bs.of⟩
/-- The state between two pieces: all frames begin anew. -/
structure GSt (W : Bs) (nt : Nat) (s : SL) (m : Mem) (g : Gh) (f : Nat → Nat) (a : Act) (w : World) : Prop where
  size : a.tmps.size = nt
  defers : a.defers = []
  slots : SRel f (look s) a
  mem : MOk w (fun i => ∃ b j, look m.blks b = some j ∧ f b = i) f m w
  base : ∀ b j, look m.blks b = some j → W.w0.heap.size ≤ f b ∨ W.X (f b)
  fr : Fr W.W W.w0 W.X w
  pin : ∀ i, W.pin = some i → f 0 = i ∧ 0 < m.next
  gh : GRel W.w0.heap.size g f m w

theorem GSt.old {W : Bs} {nt : Nat} {s : SL} {m : Mem} {g : Gh} {f : Nat → Nat} {a : Act} {w : World} (h : GSt W nt s m g f a w) : Old W.W w := h.fr.old
theorem GSt.below {W : World} {nt : Nat} {s : SL} {m : Mem} {g : Gh} {f : Nat → Nat} {a : Act} {w : World} (h : GSt (W : Bs) nt s m g f a w) : Below W.heap.size W w :=
  ⟨h.fr.os, h.fr.tape, h.fr.output, h.fr.size, fun i hi => h.fr.same i hi (fun h => h)⟩
theorem GSt.baseW {W : Bs} {nt : Nat} {s : SL} {m : Mem} {g : Gh} {f : Nat → Nat} {a : Act} {w : World} (h : GSt W nt s m g f a w) {b : Nat} {j : BI} (hj : look m.blks b = some j) : Free W.W (f b) := by
  rcases h.base b j hj with h1 | h1
  · exact W.base.old.free h1
  · exact W.base.out _ h1
theorem GSt.rel {W : Bs} {nt : Nat} {s : SL} {m : Mem} {g : Gh} {f : Nat → Nat} {a : Act} {w : World} (h : GSt W nt s m g f a w) :
    Rel W.W w (fun i => ∃ b j, look m.blks b = some j ∧ f b = i) nt s m f a w :=
  ⟨h.size, h.defers, h.slots, h.mem, rfl, rfl, rfl, Nat.le_refl _, fun _ _ _ => rfl, h.old, fun _ ⟨_, _, hj, hf⟩ => hf ▸ h.baseW hj⟩

theorem World.ownsRow.same {w w' : World} {B : Nat} {e : TypeId} {size : Nat} {v : Value} {n : Nat} {xs : List Value} (h : w.ownsRow B e size v n xs)
    (hk : ∀ k, v.ownBlock = some k → w'.heap[k]? = w.heap[k]?) : w'.ownsRow B e size v n xs := by
  obtain ⟨h1, h2 | ⟨b, cap, cur, rfl, h3, h4, h5⟩⟩ := h
  · exact ⟨h1, .inl h2⟩
  · exact ⟨h1, .inr ⟨b, cap, cur, rfl, h3, (hk b rfl).trans h4, h5⟩⟩

/-- All that a piece lays is its own and may be written. -/
def allRw (m : Mem) : Bool := allB (fun p => p.2.rw) m.blks
theorem allRw_look {m : Mem} (h : allRw m = true) {b : Nat} {j : BI} (hj : look m.blks b = some j) : j.rw = true := allB_iff h (b, j) (mem_of_look hj)

/-- A run of the executor from such a state ends in such a state. -/
theorem GSt.next {W : Bs} {nt : Nat} {s s' : SL} {m m' : Mem} {g : Gh} {f f' : Nat → Nat} {a a' : Act} {w w' : World} (h : GSt W nt s m g f a w)
    (hr : Rel W.W w (fun i => ∃ b j, look m.blks b = some j ∧ f b = i) nt s' m' f' a' w') (hrw : allRw m' = true) (hext : Ext m.next f f') (hn : m.next ≤ m'.next) : GSt W nt s' m' g f' a' w' := by
  have hb : Fr W.W W.w0 W.X w' := ⟨hr.fr.os.trans h.fr.os, hr.fr.tape.trans h.fr.tape, hr.fr.output.trans h.fr.output, Nat.le_trans h.fr.size hr.fr.size, fun k hk hx => (hr.fr.same k (Nat.lt_of_lt_of_le hk h.fr.size) (fun ⟨b, j, hj, hf⟩ => by
    rcases h.base b j hj with h1 | h1
    · omega
    · exact hx (hf ▸ h1))).trans (h.fr.same k hk hx), W.base⟩
  have hkeep : ∀ (q : Nat) (o : Own), g[q]? = some o → ∀ k, o.v.ownBlock = some k → w'.heap[k]? = w.heap[k]? := fun q o ho k hk =>
    hr.fr.same k (World.ownsRow.lt (h.gh.own q o ho) k hk).2 (fun ⟨b, j, hj, hf⟩ => h.gh.off q o ho k hk b j hj hf)
  refine ⟨hr.size, hr.defers, hr.slots, ?_, ?_, hb, fun i hi => ⟨(hext 0 (h.pin i hi).2).trans (h.pin i hi).1, Nat.lt_of_lt_of_le (h.pin i hi).2 hn⟩, ?_, ?_, h.gh.two⟩
  · exact ⟨hr.mem.blk, hr.mem.cell, hr.mem.known, hr.mem.inj, fun b i hi _ => .inr ⟨b, i, hi, rfl⟩, hr.mem.lt⟩
  · intro b j hj
    rcases hr.mem.own b j hj (allRw_look hrw hj) with h1 | ⟨b0, j0, h2, h3⟩
    · exact .inl (Nat.le_trans h.fr.size h1)
    · rw [← h3]
      exact h.base b0 j0 h2
  · intro q o ho
    exact World.ownsRow.same (h.gh.own q o ho) (hkeep q o ho)
  · intro q o ho k hk b j hj hf
    have hlt := (World.ownsRow.lt (h.gh.own q o ho) k hk).2
    rcases hr.mem.own b j hj (allRw_look hrw hj) with h1 | ⟨b0, j0, h2, h3⟩
    · omega
    · exact h.gh.off q o ho k hk b0 j0 h2 (h3.trans hf)

/-- Less is known. -/
theorem GSt.pick {W : Bs} {nt : Nat} {s : SL} {m : Mem} {g : Gh} {f : Nat → Nat} {a : Act} {w : World} (h : GSt W nt s m g f a w) {bs : List (Nat × Bool)} {Bl : List (Nat × BI)} {N : Nat}
    (hB : pickB m bs = some Bl) (hN : allB (fun p => Nat.blt p.1 N) bs = true) (hpn : ∀ i, W.pin = some i → 0 < N) (ks : List (Nat × Bool)) : GSt W nt (pickS (look s) ks) ⟨[], Bl, N⟩ g f a w := by
  have hm := pickB_ok h.mem hB hN
  have hin : ∀ b j, look Bl b = some j → ∃ i, look m.blks b = some i := by
    intro b j hj
    obtain ⟨_, j1, _, _, h1, _, _⟩ := pickB_look hB hj
    exact ⟨j1, h1⟩
  refine ⟨h.size, h.defers, pickS_rel h.slots ks, ⟨hm.blk, hm.cell, hm.known, hm.inj, fun b j hj _ => .inr ⟨b, j, hj, rfl⟩, hm.lt⟩, ?_, h.fr, fun i hi => ⟨(h.pin i hi).1, hpn i hi⟩, h.gh.own, ?_, h.gh.two⟩
  · intro b j hj
    obtain ⟨i, hi⟩ := hin b j hj
    exact h.base b i hi
  · intro q o ho k hk b j hj
    obtain ⟨i, hi⟩ := hin b j hj
    exact h.gh.off q o ho k hk b i hi

/-! ### Trees -/
inductive RG where
  | fail
  | leaf (e : Ex) (vc : SB) (s : SL) (m : Mem) (g : Gh)
  | br (b : Bool) (x y : RG)
  | any (k : Option Addr → Nat → RG)
  | pick {α : Type} (x : α) (k : α → RG)
def R.toG (g : Gh) : R → RG
  | .fail => .fail
  | .leaf e vc s m => match allRw m with
    | true => .leaf e vc s m g
    | false => .fail
  | .br b x y => .br b (x.toG g) (y.toG g)
def RG.addVc (c : SB) : RG → RG
  | .fail => .fail
  | .leaf e vc s m g => .leaf e (c.and vc) s m g
  | .br b x y => .br b (x.addVc c) (y.addVc c)
  | .any k => .any fun a n => (k a n).addVc c
  | .pick x k => .pick x fun y => (k y).addVc c
def RG.bind (h : SL → Mem → Gh → RG) : RG → RG
  | .fail => .fail
  | .leaf e vc s m g => match e with
    | .nrm => (h s m g).addVc vc
    | e => .leaf e vc s m g
  | .br b x y => .br b (x.bind h) (y.bind h)
  | .any k => .any fun a n => (k a n).bind h
  | .pick x k => .pick x fun y => (k y).bind h
def RG.unblock (id : Nat) : RG → RG
  | .fail => .fail
  | .leaf e vc s m g => match e with
    | .exit i => .leaf (match Nat.beq i id with | true => .nrm | false => .exit i) vc s m g
    | e => .leaf e vc s m g
  | .br b x y => .br b (x.unblock id) (y.unblock id)
  | .any k => .any fun a n => (k a n).unblock id
  | .pick x k => .pick x fun y => (k y).unblock id
def RG.Good : RG → Prop
  | .fail => False
  | .leaf _ vc _ _ _ => vc.val = true
  | .br b x y => (b = true → x.Good) ∧ (b = false → y.Good)
  | .any k => ∀ a n, (k a n).Good
  | .pick _ k => ∀ y, (k y).Good
def RG.Is (Φ : Ex → SL → Mem → Gh → Prop) : RG → Prop
  | .fail => False
  | .leaf e _ s m g => Φ e s m g
  | .br b x y => (b = true → x.Is Φ) ∧ (b = false → y.Is Φ)
  | .any k => ∃ a n, (k a n).Is Φ
  | .pick _ k => ∃ y, (k y).Is Φ
theorem RG.Is.mono {Φ Ψ : Ex → SL → Mem → Gh → Prop} (h : ∀ e s m g, Φ e s m g → Ψ e s m g) : ∀ {r : RG}, r.Is Φ → r.Is Ψ
  | .fail, hr => hr
  | .leaf _ _ _ _ _, hr => h _ _ _ _ hr
  | .br _ _ _, hr => ⟨fun hb => (hr.1 hb).mono h, fun hb => (hr.2 hb).mono h⟩
  | .any _, ⟨a, n, hr⟩ => ⟨a, n, hr.mono h⟩
  | .pick _ _, ⟨y, hr⟩ => ⟨y, hr.mono h⟩
theorem RG.good_addVc {c : SB} : ∀ {r : RG}, (r.addVc c).Good → r.Good ∧ (r.Is (fun _ _ _ _ => True) → c.val = true)
  | .fail, h => ⟨h, fun h => h.elim⟩
  | .leaf _ vc _ _ _, h => by
    simp only [RG.addVc, RG.Good, SB.and_val, Bool.and_eq_true] at h
    exact ⟨h.2, fun _ => h.1⟩
  | .br b x y, h => by
    refine ⟨⟨fun hb => (RG.good_addVc (h.1 hb)).1, fun hb => (RG.good_addVc (h.2 hb)).1⟩, fun hi => ?_⟩
    cases b
    · exact (RG.good_addVc (h.2 rfl)).2 (hi.2 rfl)
    · exact (RG.good_addVc (h.1 rfl)).2 (hi.1 rfl)
  | .any k, h => ⟨fun a n => (RG.good_addVc (h a n)).1, fun ⟨a, n, hi⟩ => (RG.good_addVc (h a n)).2 hi⟩
  | .pick _ k, h => ⟨fun y => (RG.good_addVc (h y)).1, fun ⟨y, hi⟩ => (RG.good_addVc (h y)).2 hi⟩
theorem RG.is_addVc {c : SB} {Φ : Ex → SL → Mem → Gh → Prop} : ∀ {r : RG}, r.Is Φ → (r.addVc c).Is Φ
  | .fail, h => h
  | .leaf _ _ _ _ _, h => h
  | .br _ _ _, h => ⟨fun hb => RG.is_addVc (h.1 hb), fun hb => RG.is_addVc (h.2 hb)⟩
  | .any _, ⟨a, n, h⟩ => ⟨a, n, RG.is_addVc h⟩
  | .pick _ _, ⟨y, h⟩ => ⟨y, RG.is_addVc h⟩
theorem RG.good_is : ∀ {r : RG}, r.Good → r.Is fun _ _ _ _ => True
  | .fail, h => h
  | .leaf _ _ _ _ _, _ => trivial
  | .br _ _ _, h => ⟨fun hb => RG.good_is (h.1 hb), fun hb => RG.good_is (h.2 hb)⟩
  | .any _, h => ⟨none, 0, RG.good_is (h none 0)⟩
  | .pick x _, h => ⟨x, RG.good_is (h x)⟩
theorem RG.good_of_bind {h : SL → Mem → Gh → RG} : ∀ {r : RG}, (r.bind h).Good → r.Good
  | .fail, hg => hg
  | .leaf e vc s m g, hg => by
    cases e with
    | nrm =>
      obtain ⟨h1, h2⟩ := RG.good_addVc hg
      exact h2 (RG.good_is h1)
    | ret => exact hg
    | exit i => exact hg
    | res v => exact hg
  | .br _ _ _, hg => ⟨fun hb => RG.good_of_bind (hg.1 hb), fun hb => RG.good_of_bind (hg.2 hb)⟩
  | .any _, hg => fun a n => RG.good_of_bind (hg a n)
  | .pick _ _, hg => fun y => RG.good_of_bind (hg y)
/-- What is to be shown of a tree's good leaves, one behind the other. -/
theorem RG.bind_good {h : SL → Mem → Gh → RG} {Φ : Ex → SL → Mem → Gh → Prop} : ∀ {r : RG}, (r.bind h).Good → r.Is Φ → r.Is fun e s m g => Φ e s m g ∧ (e = .nrm → (h s m g).Good)
  | .fail, _, hi => hi
  | .leaf e vc s m g, hg, hi => by
    refine ⟨hi, ?_⟩
    rintro rfl
    exact (RG.good_addVc hg).1
  | .br _ _ _, hg, hi => ⟨fun hb => RG.bind_good (hg.1 hb) (hi.1 hb), fun hb => RG.bind_good (hg.2 hb) (hi.2 hb)⟩
  | .any _, hg, ⟨a, n, hi⟩ => ⟨a, n, RG.bind_good (hg a n) hi⟩
  | .pick _ _, hg, ⟨y, hi⟩ => ⟨y, RG.bind_good (hg y) hi⟩
theorem RG.is_bind {h : SL → Mem → Gh → RG} {Φ Ψ : Ex → SL → Mem → Gh → Prop} (hn : ∀ s m g, Φ .nrm s m g → (h s m g).Is Ψ) (he : ∀ e s m g, e ≠ .nrm → Φ e s m g → Ψ e s m g) : ∀ {r : RG}, r.Is Φ → (r.bind h).Is Ψ
  | .fail, hi => hi
  | .leaf e vc s m g, hi => by
    cases e with
    | nrm => exact RG.is_addVc (hn s m g hi)
    | ret => exact he _ s m g (by simp) hi
    | exit i => exact he _ s m g (by simp) hi
    | res v => exact he _ s m g (by simp) hi
  | .br _ _ _, hi => ⟨fun hb => RG.is_bind hn he (hi.1 hb), fun hb => RG.is_bind hn he (hi.2 hb)⟩
  | .any _, ⟨a, n, hi⟩ => ⟨a, n, RG.is_bind hn he hi⟩
  | .pick _ _, ⟨y, hi⟩ => ⟨y, RG.is_bind hn he hi⟩
theorem RG.is_unblock {id : Nat} {Φ : Ex → SL → Mem → Gh → Prop} : ∀ {r : RG}, (r.Is fun e s m g => Φ (match e with | .exit i => (if i = id then .nrm else .exit i) | e => e) s m g) → (r.unblock id).Is Φ
  | .fail, hi => hi
  | .leaf e vc s m g, hi => by
    cases e with
    | exit i =>
      simp only [RG.unblock, RG.Is] at hi ⊢
      cases h : Nat.beq i id
      · rw [if_neg (Nat.ne_of_beq_eq_false h)] at hi; exact hi
      · rw [if_pos (Nat.eq_of_beq_eq_true h)] at hi; exact hi
    | nrm => exact hi
    | ret => exact hi
    | res v => exact hi
  | .br _ _ _, hi => ⟨fun hb => RG.is_unblock (hi.1 hb), fun hb => RG.is_unblock (hi.2 hb)⟩
  | .any _, ⟨a, n, hi⟩ => ⟨a, n, RG.is_unblock hi⟩
  | .pick _ _, ⟨y, hi⟩ => ⟨y, RG.is_unblock hi⟩
theorem RG.good_unblock {id : Nat} : ∀ {r : RG}, (r.unblock id).Good → r.Good
  | .fail, h => h
  | .leaf e vc s m g, h => by cases e <;> exact h
  | .br _ _ _, h => ⟨fun hb => RG.good_unblock (h.1 hb), fun hb => RG.good_unblock (h.2 hb)⟩
  | .any _, h => fun a n => RG.good_unblock (h a n)
  | .pick _ _, h => fun y => RG.good_unblock (h y)
theorem toG_good {g : Gh} : ∀ {r : R}, (r.toG g).Good → r.good ∧ ∀ e vc s m, r.get = some (e, vc, s, m) → allRw m = true
  | .fail, h => h.elim
  | .leaf e vc s m, h => by
    simp only [R.toG] at h
    split at h
    · rename_i ha
      exact ⟨⟨e, vc, s, m, rfl, h⟩, fun e' vc' s' m' hh => by simp only [R.get, Option.some.injEq, Prod.mk.injEq] at hh; obtain ⟨rfl, rfl, rfl, rfl⟩ := hh; exact ha⟩
    · exact h.elim
  | .br b x y, h => by
    cases b
    · obtain ⟨⟨e, vc, s, m, h1, h2⟩, h3⟩ := toG_good (h.2 rfl)
      exact ⟨⟨e, vc, s, m, h1, h2⟩, h3⟩
    · obtain ⟨⟨e, vc, s, m, h1, h2⟩, h3⟩ := toG_good (h.1 rfl)
      exact ⟨⟨e, vc, s, m, h1, h2⟩, h3⟩
theorem toG_is {g : Gh} {Φ : Ex → SL → Mem → Gh → Prop} : ∀ {r : R}, (r.toG g).Good → (∀ e vc s m, r.get = some (e, vc, s, m) → Φ e s m g) → (r.toG g).Is Φ
  | .fail, h, _ => h
  | .leaf e vc s m, h, hp => by
    cases ha : allRw m
    · simp only [R.toG, ha] at h
      exact h.elim
    · simp only [R.toG, ha]
      exact hp e vc s m rfl
  | .br b x y, h, hp => ⟨fun hb => toG_is (h.1 hb) (fun e vc s m hh => hp e vc s m (by subst hb; exact hh)), fun hb => toG_is (h.2 hb) (fun e vc s m hh => hp e vc s m (by subst hb; exact hh))⟩

/-- What holds behind a piece. -/
def GPost (W : Bs) (nt : Nat) (r : RG) (e : Exit) (a : Act) (w : World) : Prop := r.Is fun ex s m g => exOf ex = some e ∧ ∃ f, GSt W nt s m g f a w
end Go.Sx
