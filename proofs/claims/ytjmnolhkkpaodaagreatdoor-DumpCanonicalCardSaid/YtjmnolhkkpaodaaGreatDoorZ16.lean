/- A part of the proof: the reference is safe, both packages write and read alike. Several texts in one; printed by slim28.py out of the texts of wip. -/
import Derived.Test.YtjmnolhkkpaodaaGreatDoorZ15
set_option linter.all false
namespace Go.Ty
open Go Go.Sx
def numV : Nat → List AV → List (Nat × AV)
 | _, [] => []
 | n, v :: r => (n, v) :: numV (n + 1) r
def ptrsOf : List AV → List Nat
 | [] => []
 | .one (.ptr _ q _) :: r => q :: ptrsOf r
 | _ :: r => ptrsOf r
def init (sp : Sp) : Option St :=
 match sp.pm with
 | none => match ptrsOf (frVs 1 0 sp.ps 1).1 with
  | [] => some ⟨numV 0 (frVs 1 0 sp.ps 1).1, numB 1 (frVs 1 0 sp.ps 1).2, [], [], [], [], 1 + (frVs 1 0 sp.ps 1).2.length, 1, 0⟩
  | [q] => some ⟨numV 0 (frVs 1 0 sp.ps 1).1, numB 1 (frVs 1 0 sp.ps 1).2, [], [], [], [q], 1 + (frVs 1 0 sp.ps 1).2.length, 1, 0⟩
  | _ => none
 | some (i, cells) => match (frVs 1 0 sp.ps 1).1[i]? with
  | some (.one (.ptr t q 0)) => match ptrsOf (frVs 1 0 sp.ps 1).1 with
   | [_] => some ⟨numV 0 (frVs 1 0 sp.ps 1).1, numB 1 ((frVs 1 0 sp.ps 1).2 ++ (frL 1 0 cells (1 + (frVs 1 0 sp.ps 1).2.length)).2), [], [(q, t, (frL 1 0 cells (1 + (frVs 1 0 sp.ps 1).2.length)).1)], [], [q],
     1 + ((frVs 1 0 sp.ps 1).2 ++ (frL 1 0 cells (1 + (frVs 1 0 sp.ps 1).2.length)).2).length, 1, 0⟩
   | _ => none
  | _ => none
def partOf (v : Option AV) : Option (Bool × List AC) := match v with
 | some v => v.toPart
 | none => none
def cellA (P : Program) (S : Nat → Option AV) (M : Nat → Option (TypeId × List AC)) (x : Nat) (t : TypeId) : Option AV :=
 match S x with
 | some (.one (.ptr _ q o)) => match M q with
  | some (_, l) => match sizeOrOne P t with
   | some n => match Nat.ble (o + n) l.length with
    | true => asT P t ((l.drop o).take n)
    | false => none
   | none => none
  | none => none
 | _ => none
def resA (P : Program) (S : Nat → Option AV) (M : Nat → Option (TypeId × List AC)) : List ResultVar → Option (List (Bool × List AC))
 | [] => some []
 | .tmp t :: r => match partOf (S t) with
  | some q => match resA P S M r with
   | some l => some (q :: l)
   | none => none
  | none => none
 | .cell x t :: r => match partOf (cellA P S M x t) with
  | some q => match resA P S M r with
   | some l => some (q :: l)
   | none => none
  | none => none
def resVA : List (Bool × List AC) → Option AV
 | [] => some (.tup [])
 | [q] => AV.ofPart q
 | l => some (.tup l)
def finOk (P : Program) (mx : Nat) (sp : Sp) (rs : List ResultVar) (st : St) : Bool :=
 match resA P (Sx.look st.sl) (Sx.look st.mem) rs with
 | none => false
 | some l => match resVA l with
  | none => false
  | some v => match fitV (Sx.look st.ids) mx 1 sp.k v sp.rs with
   | some 0 => Nat.beq st.A 1 && Nat.ble st.K sp.k && (match sp.pm with
    | none => true
    | some (i, _) => (match (frVs 1 0 sp.ps 1).1[i]? with
     | some (.one (.ptr _ q _)) => (match Sx.look st.mem q with
      | some (_, l) => (match fitTL (Sx.look st.ids) mx 1 sp.k l sp.qm with
       | some 0 => true
       | _ => false)
      | none => false)
     | _ => false))
   | _ => false
def finAll (P : Program) (mx : Nat) (sp : Sp) (rs : List ResultVar) : Rs → Bool
 | [] => true
 | (.nrm, st) :: r => match finOk P mx sp rs st with
  | true => finAll P mx sp rs r
  | false => false
 | (.ret, st) :: r => match finOk P mx sp rs st with
  | true => finAll P mx sp rs r
  | false => false
 | _ => false
def ltVs (n : Nat) : List (Nat × AV) → Bool
 | [] => true
 | (_, v) :: r => match ltV n v with
  | true => ltVs n r
  | false => false
def ltMs (n : Nat) : List (Nat × TypeId × List AC) → Bool
 | [] => true
 | (q, _, l) :: r => match Nat.blt q n && ltLs n l with
  | true => ltMs n r
  | false => false
def envOf (P : Program) (T : Bool → TypeId → Option (List CT)) (sp : Sp) (nt : Nat) : Env := ⟨P, T, sp.mx, sp.eff, nt⟩
def chk (P : Program) (T : Bool → TypeId → Option (List CT)) (G : Nat → Option Con) (D : Env → Drw) (sq : Rs → Rs) (cl : St → St) (n : Nat) (g : FuncId) (sp : Sp) : Bool :=
 match P.funcs[g]? with
 | none => false
 | some fn => match fn.body with
  | none => false
  | some c => match init sp with
   | none => false
   | some st => !(fn.name == "runtime.NumGoroutine") && Nat.ble sp.ps.length fn.ntmps && ltVs st.nid st.sl && ltMs st.nid st.mem &&
    (match runT (envOf P T sp fn.ntmps) G (D (envOf P T sp fn.ntmps)) sq cl n c st with
    | none => false
    | some rs => finAll P sp.mx sp fn.results.toList rs)
section
variable {E : Env} {G : Nat → Option Con} {p : Par} {κ κ' : Ctx} {st st' : St} {a : Act} {w w' w0 : World} {S S0 : SB'} {D : Env → Drw} {sq : Rs → Rs} {cl : St → St} {P : Program} {T : Bool → TypeId → Option (List CT)} {sp : Sp}
theorem look_numV : ∀ {l : List AV} {n i : Nat}, Sx.look (numV n l) i = if n ≤ i then l[i - n]? else none
 | [], n, i => by simp [numV, Sx.look]
 | b :: l, n, i => by
  simp only [numV, look_cons, look_numV (l := l)]
  by_cases h : n = i
  · subst h; simp
  · rw [if_neg h]
    by_cases h2 : n ≤ i
    · rw [if_pos h2, if_pos (by omega), show i - n = (i - (n + 1)) + 1 by omega]
      simp
    · rw [if_neg h2, if_neg (by omega)]
theorem ltVs_look {n : Nat} : ∀ {l : List (Nat × AV)}, ltVs n l = true → ∀ {t : Nat} {v : AV}, Sx.look l t = some v → ltV n v = true
 | [], _, t, v, h => by simp [Sx.look] at h
 | (i, u) :: l, h, t, v, hv => by
  simp only [ltVs] at h
  split at h <;> try contradiction
  rename_i hc
  rw [look_cons] at hv
  split at hv
  · simp only [Option.some.injEq] at hv; subst hv; exact hc
  · exact ltVs_look h hv
theorem ltMs_look {n : Nat} : ∀ {l : List (Nat × TypeId × List AC)}, ltMs n l = true → ∀ {q : Nat} {x : TypeId × List AC}, Sx.look l q = some x → q < n ∧ ltLs n x.2 = true
 | [], _, t, v, h => by simp [Sx.look] at h
 | (i, u, c) :: l, h, t, v, hv => by
  simp only [ltMs] at h
  split at h <;> try contradiction
  rename_i hc
  simp only [Bool.and_eq_true, blt_iff] at hc
  rw [look_cons] at hv
  split at hv
  · rename_i hi; simp only [Option.some.injEq] at hv; subst hv hi; exact hc
  · exact ltMs_look h hv
theorem ptrsOf_mem {T : Bool → TypeId → Option (List CT)} {v0 : Value} {q : Nat} : ∀ {l : List AV} {vs : List Value}, q ∈ ptrsOf l → hasVs T v0 κ l vs → ∃ t, κ.S (κ.π q) = some ⟨false, t, 1, 1⟩
 | [], [], h, _ => by simp [ptrsOf] at h
 | v :: l, u :: vs, h, hv => by
  unfold ptrsOf at h
  split at h
  · rename_i heq; simp at heq
  · rename_i t q' o r heq
    simp only [List.cons.injEq] at heq
    obtain ⟨rfl, rfl⟩ := heq
    rcases List.mem_cons.1 h with rfl | h
    · exact ⟨t, hv.1.2⟩
    · exact ptrsOf_mem h hv.2
  · rename_i heq
    simp only [List.cons.injEq] at heq
    obtain ⟨_, rfl⟩ := heq
    exact ptrsOf_mem h hv.2
 | [], _ :: _, _, hv => hv.elim
 | _ :: _, [], _, hv => hv.elim
theorem ptrsOf_lt {n q : Nat} : ∀ {l : List AV} {k : Nat}, ltVs n (numV k l) = true → q ∈ ptrsOf l → q < n
 | [], _, _, h => by simp [ptrsOf] at h
 | v :: l, k, h, hq => by
  simp only [numV, ltVs] at h
  split at h <;> try contradiction
  rename_i hc
  unfold ptrsOf at hq
  split at hq
  · rename_i heq; simp at heq
  · rename_i t q' o r heq
    simp only [List.cons.injEq] at heq
    obtain ⟨rfl, rfl⟩ := heq
    rcases List.mem_cons.1 hq with rfl | hq
    · simpa [ltV, ltC, blt_iff] using hc
    · exact ptrsOf_lt h hq
  · rename_i heq
    simp only [List.cons.injEq] at heq
    obtain ⟨_, rfl⟩ := heq
    exact ptrsOf_lt h hq
theorem pvL_length {v0 : Value} {L : Int} : ∀ {l : List PV} {vs : List Value}, pvL S v0 L l vs → l.length = vs.length
 | [], [], _ => rfl
 | _ :: _, _ :: _, h => by simp [pvL_length h.2]
 | [], _ :: _, h => h.elim
 | _ :: _, [], h => h.elim
theorem ptrsOf_of {t q o : Nat} : ∀ {l : List AV} {i : Nat}, l[i]? = some (.one (.ptr t q o)) → q ∈ ptrsOf l
 | [], i, h => by simp at h
 | v :: l, 0, h => by simp at h; subst h; simp [ptrsOf]
 | v :: l, i + 1, h => by
  have ih := ptrsOf_of (l := l) (i := i) (by simpa using h)
  unfold ptrsOf
  split
  · rename_i heq; simp at heq
  · rename_i heq; simp only [List.cons.injEq] at heq; obtain ⟨rfl, rfl⟩ := heq; exact List.mem_cons_of_mem _ ih
  · rename_i heq; simp only [List.cons.injEq] at heq; obtain ⟨_, rfl⟩ := heq; exact ih
theorem init_ok {M : Nat} {vs : List Value} {nt : Nat} (hi : init sp = some st) (hW : WT p S M w) (hv : pvL S p.v0 M sp.ps vs) (hpm : ∀ i cells, sp.pm = some (i, cells) → PmOk p.v0 S w M vs i cells) (hnt : sp.ps.length ≤ nt) (h1 : ltVs st.nid st.sl = true) (h2 : ltMs st.nid st.mem = true) :
  ∃ κ pin, κ.S = S ∧ Rel (envOf P T sp nt) (p.at M pin) S w κ st { tmps := vs.toArray ++ Array.replicate (nt - vs.toArray.size) undef, defers := [] } w ∧ LtsOk st ∧
   (∀ i cells t q, sp.pm = some (i, cells) → (frVs 1 0 sp.ps 1).1[i]? = some (.one (.ptr t q 0)) → ∃ b, (q, b) ∈ pin ∧ vs[i]? = some (.pointer (some ⟨b, 0, none⟩))) := by
 have hlen := pvL_length hv
 obtain ⟨ys, g1, g2⟩ := frVs_sound (T := p.T) (L := (M : Int)) (M := M) (A := 1) (U := 0) (by omega) 1 hv
 let κ0 : Ctx := ⟨fun _ => 0, fun _ => 0, S⟩
 have mk : ∀ (zs : List (Int × Nat)) (bs : List Bd) (mem : List (Nat × TypeId × List AC)) (ps : List Nat) (pin : List (Nat × Nat)), Asg M bs (ys ++ zs) → st = ⟨numV 0 (frVs 1 0 sp.ps 1).1, numB 1 bs, [], mem, [], ps, 1 + bs.length, 1, 0⟩ →
   (∀ q t l, Sx.look mem q = some (t, l) → q ∈ ps ∧ cellsAt (p.at M pin) (κ0.put2 1 (ys ++ zs) S) w ((κ0.put2 1 (ys ++ zs) S).π q) l ∧ S ((κ0.put2 1 (ys ++ zs) S).π q) = some ⟨false, t, 1, 1⟩) →
   (ps = [] ∨ ∃ q, ps = [q] ∧ q ∈ ptrsOf (frVs 1 0 sp.ps 1).1) → (∀ x, x ∈ pin → x.1 < st.nid ∧ (κ0.put2 1 (ys ++ zs) S).π x.1 = x.2) → Rel (envOf P T sp nt) (p.at M pin) S w (κ0.put2 1 (ys ++ zs) S) st { tmps := vs.toArray ++ Array.replicate (nt - vs.toArray.size) undef, defers := [] } w ∧ LtsOk st := by
  intro zs bs mem ps pin hasg hst hmem hps hpin
  have hgv : Gives (κ0.put2 1 (ys ++ zs) S) 1 (ys ++ zs) := put2_gives
  have hz : (κ0.put2 1 (ys ++ zs) S).ρ 0 = 0 := put2_zero (by omega)
  have hvs := g2 _ hz rfl hgv.left
  have hpsq : ∀ q, q ∈ ps → q < st.nid ∧ (κ0.put2 1 (ys ++ zs) S).π q < w.heap.size := by
   intro q hq
   rcases hps with hps | ⟨q', hps, hq'⟩
   · rw [hps] at hq; simp at hq
   · rw [hps] at hq
     simp at hq
     subst hq
     obtain ⟨t, ht⟩ := ptrsOf_mem hq' hvs
     refine ⟨?_, hW.lt ht⟩
     rw [hst] at h1 ⊢
     exact ptrsOf_lt h1 hq'
  refine ⟨⟨by simp [envOf]; omega, rfl, ⟨hz, ?_, ?_, ?_, ?_, ?_, ?_, ?_, ?_⟩, ?_, ?_, ?_, ?_, ?_, ⟨hpin, fun x hx => by simp [Par.at] at hx⟩, ?_⟩, ⟨by rw [hst]; simp⟩⟩
  · intro t v hv'
    rw [hst] at hv'
    simp only [St.inp] at hv'
    rw [look_numV] at hv'
    simp only [Nat.zero_le, if_true, Nat.sub_zero] at hv'
    obtain ⟨u, k1, k2⟩ := hasVs_get hvs hv'
    have htl : t < vs.length := (List.getElem?_eq_some_iff.1 k1).1
    have : (vs.toArray ++ Array.replicate (nt - vs.toArray.size) undef).getD t undef = u := by
     rw [Array.getD_eq_getD_getElem?, Array.getElem?_append_left (by simpa using htl), List.getElem?_toArray, k1]
     rfl
    rw [this]
    exact k2
  · intro q t l hq
    rw [hst] at hq
    obtain ⟨_, k1, k2⟩ := hmem q t l hq
    exact ⟨k2, k1⟩
  · intro i b hb
    rw [hst] at hb
    simp only [St.inp] at hb
    rw [look_numB] at hb
    split at hb
    · rename_i hle
      obtain ⟨y, k1, k2⟩ := hasg.ok _ b hb
      have := (hgv _ y k1).1
      rw [show 1 + (i - 1) = i by omega] at this
      rw [this]
      exact k2
    · contradiction
  · intro i j hij
    rw [hst] at hij
    simp [St.inp, memL] at hij
  · rw [hst]; show 0 < 1 + bs.length; omega
  · intro t v hv' m
    exact ltV_off (ltVs_look h1 hv') m
  · intro q t l hq
    obtain ⟨k1, k2⟩ := ltMs_look h2 hq
    exact ⟨k1, ltLs_off k2⟩
  · intro i b hb
    rw [hst] at hb ⊢
    simp only [St.inp] at hb ⊢
    rw [look_numB] at hb
    split at hb
    · have := (List.getElem?_eq_some_iff.1 hb).1
      omega
    · contradiction
  · rw [hst]
    have := hW.par (M := M) (pin := pin)
    simp only [Par.at]
    rw [show ((1 : Nat) : Int) * (M : Int) + ((0 : Nat) : Int) = (M : Int) by omega]
    exact this
  · intro q q' hq hq' _
    rw [hst] at hq hq'
    simp only at hq hq'
    rcases hps with hps | ⟨x, hps, _⟩
    · rw [hps] at hq; simp at hq
    · rw [hps] at hq hq'
      simp at hq hq'
      rw [hq, hq']
  · intro q hq
    have hq2 : q ∈ ps := by rw [hst] at hq; exact hq
    exact hpsq q hq2
  · intro q x hq
    have hq2 : Sx.look mem q = some x := by rw [hst] at hq; exact hq
    have := (hmem q x.1 x.2 hq2).1
    rw [hst]
    exact this
  · intro q hq
    rw [hst] at hq
    simp at hq
  · exact ⟨rfl, rfl, rfl, Nat.le_refl _, .refl _, fun b x hx => .inl ⟨x, hx⟩, fun _ _ _ => rfl, fun q hq => by rw [hst] at hq; simp at hq⟩
 have hlt : ∀ q, q ∈ ptrsOf (frVs 1 0 sp.ps 1).1 → st.sl = numV 0 (frVs 1 0 sp.ps 1).1 → q < st.nid := fun q hq hs => by
  rw [hs] at h1
  exact ptrsOf_lt h1 hq
 unfold init at hi
 split at hi
 · rename_i hp
   split at hi <;> try contradiction
   · simp only [Option.some.injEq] at hi
     have hm := mk [] _ [] [] [] (by simpa using g1) hi.symm (by simp [Sx.look]) (.inl rfl) (by simp)
     exact ⟨_, _, rfl, hm.1, hm.2, fun i cells t q hpp => by rw [hp] at hpp; simp at hpp⟩
   · rename_i q hq
     simp only [Option.some.injEq] at hi
     have hm := mk [] _ [] [q] [] (by simpa using g1) hi.symm (by simp [Sx.look]) (.inr ⟨q, rfl, by rw [hq]; simp⟩) (by simp)
     exact ⟨_, _, rfl, hm.1, hm.2, fun i cells t q hpp => by rw [hp] at hpp; simp at hpp⟩
 · rename_i i cells hp
   split at hi <;> try contradiction
   rename_i t q hq
   split at hi <;> try contradiction
   rename_i q0 hq0
   simp only [Option.some.injEq] at hi
   obtain ⟨b, tt, arr, k1, k2, k3⟩ := hpm i cells hp
   obtain ⟨zs, g3, g4⟩ := frL_sound (T := p.T) (L := (M : Int)) (M := M) (A := 1) (U := 0) (by omega) (1 + (frVs 1 0 sp.ps 1).2.length) k3
   have hgv : Gives (κ0.put2 1 (ys ++ zs) S) 1 (ys ++ zs) := put2_gives
   have hz : (κ0.put2 1 (ys ++ zs) S).ρ 0 = 0 := put2_zero (by omega)
   have hvs := g2 _ hz rfl hgv.left
   obtain ⟨v, k4, k5, k6⟩ := hasVs_get hvs hq
   rw [k1] at k4
   simp only [Option.some.injEq] at k4
   subst k4
   simp only [Value.pointer.injEq, Option.some.injEq, Addr.mk.injEq, and_true] at k5
   subst k5
   have hmemq : q ∈ ptrsOf (frVs 1 0 sp.ps 1).1 := ptrsOf_of hq
   have hr := hgv.right
   rw [g1.len] at hr
   have hm := mk zs _ _ [q] [(q, (κ0.put2 1 (ys ++ zs) S).π q)] (g1.append g3) hi.symm (by
    intro q' t' l hl
    rw [look_cons] at hl
    split at hl
    · rename_i hqq
      simp only [Option.some.injEq, Prod.mk.injEq] at hl
      obtain ⟨rfl, rfl⟩ := hl
      subst hqq
      exact ⟨by simp, ⟨arr, tt, k2, g4 _ hz rfl hr⟩, k6⟩
    · simp [Sx.look] at hl) (.inr ⟨q, rfl, hmemq⟩) (by
    intro x hx
    simp at hx
    subst hx
    exact ⟨hlt q hmemq (by rw [← hi]), rfl⟩)
   refine ⟨_, _, rfl, hm.1, hm.2, ?_⟩
   intro i' cells' t' q' hp' hq'
   rw [hp] at hp'
   simp only [Option.some.injEq, Prod.mk.injEq] at hp'
   obtain ⟨rfl, rfl⟩ := hp'
   rw [hq] at hq'
   simp only [Option.some.injEq, AV.one.injEq, AC.ptr.injEq] at hq'
   obtain ⟨_, rfl, _⟩ := hq'
   exact ⟨_, by simp, k1⟩
theorem partOf_has {T : Bool → TypeId → Option (List CT)} {v0 : Value} {v : Option AV} {q : Bool × List AC} (h : partOf v = some q) : ∃ x, v = some x ∧ ∀ u, x.has T v0 κ u → hasP T v0 κ q u := by
 cases v with
 | none => simp [partOf] at h
 | some x =>
  simp only [partOf] at h
  refine ⟨x, rfl, fun u hu => ?_⟩
  cases x with
  | ud => simp [AV.toPart] at h
  | one c => simp only [AV.toPart, Option.some.injEq] at h; subst h; exact hu
  | agg l => simp only [AV.toPart, Option.some.injEq] at h; subst h; exact hu
  | tup _ => simp [AV.toPart] at h
theorem resA_run {S : Nat → Option AV} {M : Nat → Option (TypeId × List AC)} {tmps : Array Value} (hS : ∀ t v, S t = some v → v.has p.T p.v0 κ (tmps.getD t undef)) {P : Program} {w : World} (hM : ∀ q t l, M q = some (t, l) → cellsAt p κ w (κ.π q) l) : ∀ {rs : List ResultVar} {l : List (Bool × List AC)}, resA P S M rs = some l →
  ∃ us : List Value, (rs.mapM (oneResult tmps)).run P w = .ok us w ∧ hasPs p.T p.v0 κ l us
 | [], l, h => by simp [resA] at h; subst h; exact ⟨[], by simp, trivial⟩
 | .tmp t :: rs, l, h => by
  simp only [resA] at h
  split at h <;> try contradiction
  rename_i q hq
  split at h <;> try contradiction
  rename_i l' hl
  simp only [Option.some.injEq] at h
  subst h
  obtain ⟨v, hv, hvq⟩ := partOf_has (T := p.T) (v0 := p.v0) (κ := κ) hq
  obtain ⟨us, h1, h2⟩ := resA_run hS hM (P := P) hl
  refine ⟨tmps.getD t undef :: us, ?_, hvq _ (hS t v hv), h2⟩
  simp only [List.mapM_cons, Sem.run_bind, oneResult, Sem.run_pure, Result.andThen_ok, h1]
 | .cell x t :: rs, l, h => by
  simp only [resA] at h
  split at h <;> try contradiction
  rename_i q hq
  split at h <;> try contradiction
  rename_i l' hl
  simp only [Option.some.injEq] at h
  subst h
  obtain ⟨v, hv, hvq⟩ := partOf_has (T := p.T) (v0 := p.v0) (κ := κ) hq
  obtain ⟨us, h1, h2⟩ := resA_run hS hM (P := P) hl
  unfold cellA at hv
  split at hv <;> try contradiction
  rename_i pt qq off hx
  split at hv <;> try contradiction
  rename_i tt c hc
  split at hv <;> try contradiction
  rename_i n hn
  split at hv <;> try contradiction
  rename_i hle
  simp only [Nat.ble_eq] at hle
  obtain ⟨hx1, hx2⟩ := hS x _ hx
  obtain ⟨arr, te, hb, hl2⟩ := hM qq tt c hc
  have hlen := (hasL_length hl2).trans Array.length_toList
  obtain ⟨u, h5, h6⟩ := asT_has (w := w) (off := off) hv (hasL_take n (hasL_drop off hl2)) hn (by rw [List.length_take, List.length_drop, Array.length_toList]; omega) hb (fun j u hu => by
   rw [List.getElem?_take] at hu
   split at hu
   · rw [List.getElem?_drop, Array.getElem?_toList] at hu; exact hu
   · contradiction)
  refine ⟨u :: us, ?_, hvq _ h6.1, h2⟩
  simp only [List.mapM_cons, Sem.run_bind, oneResult, hx1, asAddr, Sem.run_pure, Result.andThen_ok, h5, h1]
theorem resVA_has {T : Bool → TypeId → Option (List CT)} {v0 : Value} {l : List (Bool × List AC)} {us : List Value} (h : hasPs T v0 κ l us) {v : AV} (hv : resVA l = some v) : v.has T v0 κ (resultOf us.toArray) := by
 match l, us, h, hv with
 | [], [], _, hv => simp [resVA] at hv; subst hv; exact ⟨#[], rfl, trivial⟩
 | [q], [u], h, hv =>
  simp only [resVA] at hv
  have := ofPart_has hv h.1
  simpa [resultOf] using this
 | q :: q' :: r, u :: u' :: us, h, hv =>
  simp [resVA] at hv
  subst hv
  refine ⟨(u :: u' :: us).toArray, ?_, h⟩
  simp [resultOf]
 | [q], _ :: _ :: _, h, _ => exact h.2.elim
 | [q], [], h, _ => exact h.elim
 | [], _ :: _, h, _ => exact h.elim
 | _ :: _ :: _, [], h, _ => exact h.elim
 | _ :: _ :: _, [_], h, _ => exact h.2.elim
def chkHd (sp : Sp) (fn : Func) (st : St) : Bool := !(fn.name == "runtime.NumGoroutine") && Nat.ble sp.ps.length fn.ntmps && ltVs st.nid st.sl && ltMs st.nid st.mem
theorem spOk_sem {g : FuncId} {fn : Func} {c : Code} {st : St} {rs : Rs} (hT : T = p.T) (hv0 : p.v0.oneCell' = true ∧ p.v0.cells = #[p.v0]) (hTp : ∀ r t ts, p.T r t = some ts → 0 < ts.length)
  (hfn : P.funcs[g]? = some fn) (hc : fn.body = some c) (hst : init sp = some st) (hhd : chkHd sp fn st = true)
  (hwp : ∀ M pin, M ≤ sp.mx → ∀ (S0 : SB') (w0 : World) (a : Act) (w : World), EnvOk (envOf P T sp fn.ntmps) (fun _ => none) (p.at M pin) → Good (envOf P T sp fn.ntmps) (p.at M pin) S0 w0 st a w → c.wp P (PostT (envOf P T sp fn.ntmps) (p.at M pin) S0 w0 rs) a w)
  (hrun : finAll P sp.mx sp fn.results.toList rs = true) : SpOk P p g sp := by
 simp only [chkHd, Bool.and_eq_true, Nat.ble_eq] at hhd
 obtain ⟨⟨⟨hname, hlen⟩, hlt1⟩, hlt2⟩ := hhd
 refine ⟨⟨fn, hfn, by simpa using hname, by simp [hc]⟩, ?_⟩
 intro S w M vs hM hW hv hpm
 obtain ⟨κ, pin, hκ, hrel, hlts, hptr⟩ := init_ok (P := P) (T := T) (nt := fn.ntmps) hst hW hv hpm hlen hlt1 hlt2
 have hE : EnvOk (envOf P T sp fn.ntmps) (fun _ => none) (p.at M pin) := ⟨hT, hM, hv0, hTp, fun _ _ h => by cases h⟩
 have hwp := hwp M pin hM S w _ w hE ⟨κ, hrel, hlts⟩
 refine calls_of_wp hfn hc (wp_mono hwp ?_)
 rintro e a1 w1 ⟨ex, s, hmem, hex, κ1, hr1, hl1⟩
 have allfin : ∀ {l : Rs}, finAll P sp.mx sp fn.results.toList l = true → (ex, s) ∈ l → finOk P sp.mx sp fn.results.toList s = true ∧ (ex = .nrm ∨ ex = .ret) := by
  intro l
  induction l with
  | nil => intro _ h; simp at h
  | cons x l ih =>
   intro hf hm
   obtain ⟨ex', s'⟩ := x
   cases ex' with
   | nrm =>
    simp only [finAll] at hf
    split at hf <;> try contradiction
    rename_i h1
    rcases List.mem_cons.1 hm with hm | hm
    · simp only [Prod.mk.injEq] at hm; rw [hm.1, hm.2]; exact ⟨h1, .inl rfl⟩
    · exact ih hf hm
   | ret =>
    simp only [finAll] at hf
    split at hf <;> try contradiction
    rename_i h1
    rcases List.mem_cons.1 hm with hm | hm
    · simp only [Prod.mk.injEq] at hm; rw [hm.1, hm.2]; exact ⟨h1, .inr rfl⟩
    · exact ih hf hm
   | exit i => simp [finAll] at hf
   | res v => simp [finAll] at hf
 obtain ⟨hfin, hexx⟩ := allfin hrun hmem
 unfold finOk at hfin
 split at hfin <;> try contradiction
 rename_i l hl
 split at hfin <;> try contradiction
 rename_i v hv2
 split at hfin <;> try contradiction
 rename_i hfit
 simp only [Bool.and_eq_true, Nat.beq_eq, Nat.ble_eq] at hfin
 obtain ⟨⟨hA, hK⟩, hqm⟩ := hfin
 obtain ⟨us, hus, hus2⟩ := resA_run (p := p.at M pin) (P := P) (w := w1) hr1.inp.slots (fun q t l hq => (hr1.inp.mem q t l hq).2) hl
 have hval := resVA_has hus2 hv2
 have hres : (results fn a1.tmps).run P w1 = .ok (resultOf us.toArray) w1 := by
  rw [results_eq]
  have h2 : (fn.results.mapM (oneResult a1.tmps)).run P w1 = .ok us.toArray w1 := by
   rw [Array.mapM_eq_mapM_toList]
   simp only [Sem.run_map, hus, Result.andThen_ok]
  simp only [Sem.run_bind, h2, Result.andThen_ok, Sem.run_pure]
 have hlev : ((1 : Nat) : Int) * ((p.at M pin).M : Int) + (sp.k : Int) + ((0 : Nat) : Int) ≤ (M : Int) + sp.k := by simp only [Par.at]; omega
 have hok := fitV_sound (I := s.inp) (A := 1) (K := sp.k) (L := (M : Int) + sp.k) hr1.inp (show (p.at M pin).M ≤ sp.mx from hM) hfit hval hlev
 have hf := hr1.fr
 have hwt : WT p κ1.S ((M : Int) + sp.k) w1 := by
  refine (WT.unpar (M := M) (pin := pin) hr1.wt).mono ?_
  rw [hA]
  simp only [Par.at]
  omega
 have fin : a1.defers = [] ∧ ∃ u, (results fn a1.tmps).run P w1 = .ok u w1 ∧ ∃ u' S', Ending.returned u = .returned u' ∧ SpOut p sp S w M vs S' w1 u' := by
  refine ⟨hr1.defers, _, hres, _, κ1.S, rfl, hf.ext, hwt, hf.os, hf.tape, hf.output, hf.size, hf.newS, hf.same, hok, ?_⟩
  intro i cells hp
  rw [hp] at hqm
  simp only at hqm
  split at hqm <;> try contradiction
  rename_i t q o hq
  split at hqm <;> try contradiction
  rename_i t' l' hl'
  split at hqm <;> try contradiction
  rename_i hfl
  obtain ⟨hS1, arr, tt, hb1, hb2⟩ := hr1.inp.mem q t' l' hl'
  have ho : o = 0 := by
   unfold init at hst
   rw [hp] at hst
   simp only [hq] at hst
   cases o with
   | zero => rfl
   | succ o => simp at hst
  subst ho
  obtain ⟨b, hpin, hvi⟩ := hptr i cells t q hp hq
  have hpi := (hr1.pin.1 _ hpin).2
  simp only at hpi
  refine ⟨κ1.π q, tt, arr, ?_, hb1, fitTL_sound (I := s.inp) (A := 1) (K := sp.k) hr1.inp (show (p.at M pin).M ≤ sp.mx from hM) hfl hb2 hlev⟩
  rw [hpi]
  exact hvi
 rcases hexx with rfl | rfl
 · simp only [exOf, Option.some.injEq] at hex; subst hex; exact fin
 · simp only [exOf, Option.some.injEq] at hex; subst hex; exact fin
theorem spOk_of {n : Nat} {g : FuncId} (hT : T = p.T) (hv0 : p.v0.oneCell' = true ∧ p.v0.cells = #[p.v0]) (hTp : ∀ r t ts, p.T r t = some ts → 0 < ts.length) (hG0 : ∀ M pin, ∀ g con, G g = some con → ConOk P sp.mx (p.at M pin) g con)
  (hD : ∀ M pin nt, M ≤ sp.mx → DrwOk (envOf P T sp nt) (p.at M pin) (D (envOf P T sp nt))) (hsq : SqOk sq) (hcl : ClOk cl) (h : chk P T G D sq cl n g sp = true) : SpOk P p g sp := by
 unfold chk at h
 split at h <;> try contradiction
 rename_i fn hfn
 split at h <;> try contradiction
 rename_i c hc
 split at h <;> try contradiction
 rename_i st hst
 rw [Bool.and_eq_true] at h
 obtain ⟨hhd, hrun⟩ := h
 split at hrun <;> try contradiction
 rename_i rs hrs
 refine spOk_sem hT hv0 hTp hfn hc hst hhd ?_ hrun
 intro M pin hM S0 w0 a w hE hg
 exact (runT_sound (S0 := S0) (w0 := w0) (E := envOf P T sp fn.ntmps) ⟨hE.T, hE.M, hE.v0, hE.Tp, hG0 M pin⟩ (hD M pin fn.ntmps hM) hsq hcl n).1 c st rs a w hrs hg
end
end Go.Ty
