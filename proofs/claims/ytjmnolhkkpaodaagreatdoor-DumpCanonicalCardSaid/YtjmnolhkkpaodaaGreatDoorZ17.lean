/- A part of the proof: the reference is safe, both packages write and read alike. Several texts in one; printed by slim28.py out of the texts of wip. -/
import Derived.Test.YtjmnolhkkpaodaaGreatDoorZ16
set_option linter.all false
namespace Go.Ty
open Go Go.Sx
def directs (o : Oper) : List Nat := (o.after.toList.filter (Region.binds .any)).map (·.on)
def getN (l : List (List Nat)) (i : Nat) : List Nat := match l[i]? with
 | some x => x
 | none => []
def joinN (acc : List (List Nat)) : List Nat → List Nat
 | [] => []
 | j :: r => getN acc j ++ joinN acc r
def dpsGo : List Oper → List (List Nat) → List (List Nat)
 | [], acc => acc
 | o :: r, acc => dpsGo r (acc ++ [directs o ++ joinN acc (directs o)])
structure TI where
 wr : List (Nat × TypeId)
 kill : List (Bool × TypeId)
 up : Nat
def tch (ti : TI) (q t : Nat) : Bool := memK false t ti.kill || (Sx.look ti.wr q).isSome
def tchAll (q t : Nat) (f : Nat → Bool) : Nat → List TI → Bool
 | _, [] => true
 | k, x :: r => match !tch x q t || f k with
  | true => tchAll q t f (k + 1) r
  | false => false
structure DE where
 ix : Nat
 o : Oper
 I : In
 e : Ef
 dp : List Nat
def DE.content (x : DE) : List (Nat × TypeId × List AC) := newM x.I.n x.e.nb ++ x.e.pm
def findE : List DE → Nat → Option DE
 | [], _ => none
 | x :: r, j => match Nat.beq x.ix j with
  | true => some x
  | false => findE r j
def dstIx : List Oper → Nat → Nat → Option Nat
 | [], _, _ => none
 | o :: r, t, i => match o.dst with
  | some d => match Nat.beq d t with
   | true => some i
   | false => dstIx r t (i + 1)
  | none => dstIx r t (i + 1)
def memF (inf : List TI) (dps : List (List Nat)) (dp : List Nat) (i : Nat) (base : Nat → Option (TypeId × List AC)) : List DE → Nat → Option (TypeId × List AC)
 | [], q => match base q with
  | some (t, l) => match tchAll q t (fun k => Nat.beq k i || memN i (getN dps k)) 0 inf with
   | true => some (t, l)
   | false => none
  | none => none
 | x :: r, q => match memN x.ix dp with
  | true => match Sx.look x.content q with
   | some (t, l) => match tchAll q t (fun k => Nat.beq k i || Nat.beq k x.ix || memN k x.dp || memN i (getN dps k)) 0 inf with
    | true => some (t, l)
    | false => memF inf dps dp i base r q
   | none => memF inf dps dp i base r q
  | false => memF inf dps dp i base r q
def idsL (dp : List Nat) : List DE → List (Nat × Bd)
 | [] => []
 | x :: r => match memN x.ix dp with
  | true => numB x.I.n x.e.new ++ idsL dp r
  | false => idsL dp r
def ltsL (dp : List Nat) : List DE → List (Nat × Nat)
 | [] => []
 | x :: r => match memN x.ix dp with
  | true => x.e.lts ++ ltsL dp r
  | false => ltsL dp r
def newL (dp : List Nat) : List DE → List Nat
 | [] => []
 | x :: r => match memN x.ix dp && x.e.nb.isSome with
  | true => x.I.n :: newL dp r
  | false => newL dp r
def upSum (dps : List (List Nat)) (i : Nat) : Nat → List TI → Nat
 | _, [] => 0
 | k, x :: r => match Nat.beq k i || memN i (getN dps k) with
  | true => upSum dps i (k + 1) r
  | false => x.up + upSum dps i (k + 1) r
def upAll : List TI → Nat
 | [] => 0
 | x :: r => x.up + upAll r
def slotF (st : St) (all : Array Oper) (dps : List (List Nat)) (i : Nat) (acc : List DE) (dp : List Nat) (t : Nat) : Option AV :=
 match dstIx all.toList t 0 with
 | none => Sx.look st.sl t
 | some j => match memN j dp with
  | true => match findE acc j with
   | some x => some x.e.av
   | none => none
  | false => match memN i (getN dps j) with
   | true => Sx.look st.sl t
   | false => none
def inOf (st : St) (all : Array Oper) (dps : List (List Nat)) (inf : List TI) (acc : List DE) (i n : Nat) : In :=
 ⟨slotF st all dps i acc (getN dps i), memF inf dps (getN dps i) i (Sx.look st.mem) acc, Sx.look (idsL (getN dps i) acc ++ st.ids), fun x y => memL x y (ltsL (getN dps i) acc ++ st.lts), n, st.A, st.K, st.K + upSum dps i 0 inf⟩
def nidOf (st : St) : List DE → Nat
 | [] => st.nid
 | x :: _ => x.I.n + x.e.new.length
def eqWr : List (Nat × Nat) → List (Nat × Nat) → Bool
 | [], [] => true
 | (a, b) :: r, (c, d) :: s => Nat.beq a c && Nat.beq b d && eqWr r s
 | _, _ => false
def eqK : List (Bool × Nat) → List (Bool × Nat) → Bool
 | [], [] => true
 | (a, b) :: r, (c, d) :: s => (a == c) && Nat.beq b d && eqK r s
 | _, _ => false
def offN (n m i : Nat) : Bool := Nat.blt i n || Nat.ble (n + m) i
def offC (n m : Nat) : AC → Bool
 | .int _ i _ => offN n m i
 | .bool (.lit _) => true
 | .bool (.cmp _ i _ j _) => offN n m i && offN n m j
 | .slc _ i _ => offN n m i
 | .ptr _ q _ => offN n m q
 | _ => true
def offLs (n m : Nat) : List AC → Bool
 | [] => true
 | c :: l => match offC n m c with
  | true => offLs n m l
  | false => false
def offPs (n m : Nat) : List (Bool × List AC) → Bool
 | [] => true
 | c :: l => match offLs n m c.2 with
  | true => offPs n m l
  | false => false
def offV (n m : Nat) : AV → Bool
 | .ud => true
 | .one c => offC n m c
 | .agg l => offLs n m l
 | .tup ps => offPs n m ps
def offT (n m : Nat) : List (Nat × Nat) → Bool
 | [] => true
 | (i, j) :: l => match offN n m i && offN n m j with
  | true => offT n m l
  | false => false
def offM (n m : Nat) : List (Nat × TypeId × List AC) → Bool
 | [] => true
 | (q, _, l) :: r => match offN n m q && offLs n m l with
  | true => offM n m r
  | false => false
def offAll (dp : List Nat) (e : Ef) (c : List (Nat × TypeId × List AC)) : List DE → Bool
 | [] => true
 | x :: r => match memN x.ix dp || (offV x.I.n x.e.new.length e.av && offT x.I.n x.e.new.length e.lts && offM x.I.n x.e.new.length c) with
  | true => offAll dp e c r
  | false => false
def conOkM (n' : Nat) (ps : List Nat) : List (Nat × TypeId × List AC) → Bool
 | [] => true
 | (q, _, l) :: r => match memN q ps && ltLs n' l with
  | true => conOkM n' ps r
  | false => false
def gdI (E : Env) (all : Array Oper) (I : In) (o : Oper) : Option Bool := match o.guard with
 | none => some true
 | some (g, b) => match all[g]? with
  | some og => match og.dst with
   | some d => match I.S d with
    | some (.one (.bool bb)) => match evalB I.B E.mx bb with
     | some v => some (v == b)
     | none => none
    | _ => none
   | none => none
  | none => none
def entE (E : Env) (G : Nat → Option Con) (all : Array Oper) (I : In) (o : Oper) : Option Ef := match gdI E all I o with
 | some true => aop E G I o
 | some false => some (Ef.pure .ud)
 | none => none
def entOk (E : Env) (st : St) (all : Array Oper) (inf : List TI) (acc : List DE) (x : DE) : Bool :=
 dstOk E.nt x.o.dst && (match x.o.dst with
  | some t => (match dstIx all.toList t 0 with | some j => Nat.beq j x.ix | none => false)
  | none => true) && ltV (x.I.n + x.e.new.length) x.e.av && ltPairs (x.I.n + x.e.new.length) x.e.lts && subK E.eff x.e.kill &&
 wrOk E.eff (newL x.dp acc ++ st.own) (newL x.dp acc ++ st.ps) x.e.wr && conOkM (x.I.n + x.e.new.length) (newL x.dp acc ++ st.ps) x.e.pm && (match x.e.nb with | some (_, l) => Nat.beq x.e.new.length 1 && ltLs (x.I.n + x.e.new.length) l | none => true) &&
 (match inf[x.ix]? with | some ti => eqWr ti.wr x.e.wr && eqK ti.kill x.e.kill && Nat.beq ti.up x.e.up | none => false) && offAll x.dp x.e x.content acc
def dPass (E : Env) (G : Nat → Option Con) (st : St) (all : Array Oper) (dps : List (List Nat)) (inf : List TI) : List Oper → Nat → List DE → Option (List DE)
 | [], _, acc => some acc
 | o :: r, i, acc =>
  match entE E G all (inOf st all dps inf acc i (nidOf st acc)) o with
  | none => none
  | some e => match entOk E st all inf acc ⟨i, o, inOf st all dps inf acc i (nidOf st acc), e, getN dps i⟩ with
   | true => dPass E G st all dps inf r (i + 1) (⟨i, o, inOf st all dps inf acc i (nidOf st acc), e, getN dps i⟩ :: acc)
   | false => none
def memG (dp : List Nat) (base : Nat → Option (TypeId × List AC)) : List DE → Nat → Option (TypeId × List AC)
 | [], q => base q
 | x :: r, q => match memN x.ix dp with
  | true => match Sx.look x.content q with
   | some y => some y
   | none => memG dp base r q
  | false => memG dp base r q
def dPre (E : Env) (G : Nat → Option Con) (st : St) (all : Array Oper) (dps : List (List Nat)) (inf0 : List TI) : List Oper → Nat → List DE → List TI → Option (List TI)
 | [], _, _, inf => some inf
 | o :: r, i, acc, inf =>
  match entE E G all ⟨slotF st all dps i acc (getN dps i), memG (getN dps i) (Sx.look st.mem) acc, Sx.look (idsL (getN dps i) acc ++ st.ids), fun x y => memL x y (ltsL (getN dps i) acc ++ st.lts), nidOf st acc, st.A, st.K, st.K + upSum dps i 0 inf0⟩ o with
  | none => none
  | some e => dPre E G st all dps inf0 r (i + 1) (⟨i, o, inOf st all dps [] acc i (nidOf st acc), e, getN dps i⟩ :: acc) (inf ++ [⟨e.wr, e.kill, e.up⟩])
def dstL : List DE → List (Nat × AV)
 | [] => []
 | x :: r => putA x.o.dst x.e.av (dstL r)
def idsA : List DE → List (Nat × Bd)
 | [] => []
 | x :: r => numB x.I.n x.e.new ++ idsA r
def ltsA : List DE → List (Nat × Nat)
 | [] => []
 | x :: r => x.e.lts ++ ltsA r
def newA : List DE → List Nat
 | [] => []
 | x :: r => match x.e.nb with
  | some _ => x.I.n :: newA r
  | none => newA r
def memC (inf : List TI) (x : DE) : List (Nat × TypeId × List AC) → List (Nat × TypeId × List AC)
 | [] => []
 | (q, t, l) :: r => match tchAll q t (fun k => Nat.beq k x.ix || memN k x.dp) 0 inf with
  | true => (q, t, l) :: memC inf x r
  | false => memC inf x r
def memE (inf : List TI) : List DE → List (Nat × TypeId × List AC)
 | [] => []
 | x :: r => memC inf x x.content ++ memE inf r
def wrsA : List DE → List (Nat × TypeId)
 | [] => []
 | x :: r => x.e.wr ++ wrsA r
def killsA : List DE → List (Bool × TypeId)
 | [] => []
 | x :: r => x.e.kill ++ killsA r
def finD (st : St) (inf : List TI) (es : List DE) : St :=
 ⟨dstL es ++ st.sl, idsA es ++ st.ids, ltsA es ++ st.lts, memE inf es ++ keepM (wrsA es) (killsA es) [] st.mem, newA es ++ st.own, newA es ++ st.ps, nidOf st es, st.A, st.K + upAll inf⟩
def dTry (E : Env) (G : Nat → Option Con) (st : St) (all : Array Oper) : Nat → List TI → Option St
 | 0, _ => none
 | k + 1, inf0 => match dPre E G st all (dpsGo all.toList []) inf0 all.toList 0 [] [] with
  | none => none
  | some inf => match Nat.beq inf.length all.size with
   | false => none
   | true => match dPass E G st all (dpsGo all.toList []) inf all.toList 0 [] with
    | none => dTry E G st all k inf
    | some es => some (finD st inf es)
def drw (G : Nat → Option Con) (E : Env) : Drw := fun all st =>
 match edgesOk all.toList 0 with
 | false => none
 | true => dTry E G st all 6 []
def ClosedS (all : Array Oper) (sel : Nat → Bool) : Prop := ∀ j o, all[j]? = some o → ∀ e ∈ o.after.toList, Region.binds .any e = true → sel j = true → sel e.on = true
theorem any_inv {P : Program} {all : Array Oper} (hedges : edgesOk all.toList 0 = true) {Q : Exit → Act → World → Prop} {Inv : (Nat → Bool) → Act → World → Prop} (hdone : ∀ sel a w, (∀ i, i < all.size → sel i = true) → Inv sel a w → Q .normal a w)
  (hstep : ∀ sel i o a w (K : Act → World → Prop), all[i]? = some o → sel i = false → (∀ e ∈ o.after.toList, Region.binds .any e = true → sel e.on = true) → ClosedS all sel → Inv sel a w → (∀ a w, Inv (fun j => sel j || j == i) a w → K a w) → wpOp P all Q i K a w) :
  ∀ (fuel : Nat) (U : List Nat) (listed : Array Bool) (a : Act) (w : World), U.length = fuel → U.Nodup → listed.size = all.size → (∀ i, i < all.size → (listed.getD i true = false ↔ i ∈ U)) → (∀ i ∈ U, i < all.size) →
   ClosedS all (fun i => listed.getD i false) → Inv (fun i => listed.getD i false) a w → wpAny P .any all Q fuel listed a w := by
 have tof : ∀ (listed : Array Bool) (i : Nat), i < listed.size → listed.getD i true = listed.getD i false := by
  intro listed i hi
  simp [Array.getD_eq_getD_getElem?, hi]
 intro fuel
 induction fuel with
 | zero =>
  intro U listed a w hU _ hsz hUl _ _ hinv
  have hnil : U = [] := List.eq_nil_of_length_eq_zero hU
  subst hnil
  have hall : ∀ i, i < all.size → listed.getD i true = true := by
   intro i hi
   cases h : listed.getD i true with
   | true => rfl
   | false => have := (hUl i hi).1 h; simp at this
  refine ⟨?_, hdone _ a w (fun i hi => by rw [← tof listed i (by omega)]; exact hall i hi) hinv⟩
  rw [List.eq_nil_iff_forall_not_mem]
  intro i hi
  obtain ⟨h1, h2, _⟩ := Sx.mem_ready hi
  rw [hall i h1] at h2
  cases h2
 | succ fuel ih =>
  intro U listed a w hU hnd hsz hUl hUlt hcl hinv
  refine ⟨?_, ?_⟩
  · intro hempty
    have key : ∀ k, ∀ i, i < k → i < all.size → listed.getD i true = true := by
     intro k
     induction k with
     | zero => intro i hi; omega
     | succ k ihk =>
      intro i hi hia
      by_cases hik : i < k
      · exact ihk i hik hia
      · cases h : listed.getD i true with
        | true => rfl
        | false =>
         have hr : i ∈ Region.ready .any all listed := by
          refine Sx.ready_mem hia h ?_
          intro o ho e he hb
          have hlt := edgesOk_spec hedges i o (by rw [Array.getElem?_toList]; exact ho) e he hb
          have h2 := ihk e.on (by omega) (by omega)
          rw [← tof listed e.on (by omega)]
          exact h2
         rw [hempty] at hr
         simp at hr
    exact hdone _ a w (fun i hi => by rw [← tof listed i (by omega)]; exact key (i + 1) i (Nat.lt_succ_self _) hi) hinv
  · intro i hi
    obtain ⟨h1, h2, h3⟩ := Sx.mem_ready hi
    have hiU := (hUl i h1).1 h2
    have hoff : listed.getD i false = false := by rw [← tof listed i (by omega)]; exact h2
    obtain ⟨o, ho⟩ : ∃ o, all[i]? = some o := ⟨all[i], by simp [h1]⟩
    refine hstep _ i o a w _ ho hoff (h3 o ho) hcl hinv ?_
    intro a' w' hinv'
    have hset : ∀ j, (listed.setIfInBounds i true).getD j false = (listed.getD j false || j == i) := by
     intro j
     simp only [Array.getD_eq_getD_getElem?, Array.getElem?_setIfInBounds]
     by_cases hj : i = j
     · subst hj; simp [show i < listed.size by omega]
     · simp [hj, Ne.symm hj]
    have hfun : (fun j => (listed.setIfInBounds i true).getD j false) = fun j => (listed.getD j false || j == i) := funext hset
    refine ih (U.erase i) _ a' w' (by rw [List.length_erase_of_mem hiU, hU]; rfl) (hnd.erase _) (by simpa using hsz) ?_ ?_ ?_ ?_
    · intro j hj
      rw [hnd.mem_erase_iff, ← hUl j hj]
      simp only [Array.getD_eq_getD_getElem?, Array.getElem?_setIfInBounds]
      by_cases hjx : i = j
      · subst hjx; simp [show i < listed.size by omega]
      · simp [hjx, Ne.symm hjx]
    · intro j hj; exact hUlt j (List.mem_of_mem_erase hj)
    · rw [hfun]
      intro j o' ho' e he hb hs
      simp only [Bool.or_eq_true, beq_iff_eq] at hs ⊢
      rcases hs with hs | rfl
      · exact .inl (hcl j o' ho' e he hb hs)
      · rw [ho] at ho'
        simp only [Option.some.injEq] at ho'
        subst ho'
        exact .inl (h3 o ho e he hb)
    · rw [hfun]; exact hinv'
theorem directs_mem {o : Oper} {j : Nat} (h : j ∈ directs o) : ∃ e ∈ o.after.toList, Region.binds .any e = true ∧ e.on = j := by
 simp only [directs, List.mem_map, List.mem_filter] at h
 obtain ⟨e, ⟨h1, h2⟩, h3⟩ := h
 exact ⟨e, h1, h2, h3⟩
theorem joinN_mem {acc : List (List Nat)} {k : Nat} : ∀ {l : List Nat}, k ∈ joinN acc l → ∃ j ∈ l, k ∈ getN acc j
 | [], h => by simp [joinN] at h
 | j :: r, h => by
  simp only [joinN, List.mem_append] at h
  rcases h with h | h
  · exact ⟨j, by simp, h⟩
  · obtain ⟨j', h1, h2⟩ := joinN_mem h
    exact ⟨j', by simp [h1], h2⟩
def DpsOk (all : Array Oper) (acc : List (List Nat)) : Prop := ∀ i, i < acc.length → ∀ o, all[i]? = some o → ∀ sel, ClosedS all sel → (∀ e ∈ o.after.toList, Region.binds .any e = true → sel e.on = true) → ∀ k ∈ getN acc i, sel k = true
theorem getN_append {acc : List (List Nat)} {x : List Nat} {i : Nat} (h : i < acc.length) : getN (acc ++ [x]) i = getN acc i := by
 simp only [getN, List.getElem?_append_left h]
theorem dpsGo_ok {all : Array Oper} : ∀ {l pre : List Oper} {acc : List (List Nat)}, all.toList = pre ++ l → acc.length = pre.length → DpsOk all acc → DpsOk all (dpsGo l acc) ∧ (dpsGo l acc).length = all.size
 | [], pre, acc, h, hl, hok => by
  refine ⟨hok, ?_⟩
  rw [dpsGo, hl, ← Array.length_toList, h]
  simp
 | o :: r, pre, acc, h, hl, hok => by
  simp only [dpsGo]
  refine dpsGo_ok (pre := pre ++ [o]) (by rw [h]; simp) (by simp [hl]) ?_
  intro i hi o' ho' sel hcl haf k hk
  by_cases hlt : i < acc.length
  · rw [getN_append hlt] at hk
    exact hok i hlt o' ho' sel hcl haf k hk
  · have hie : i = acc.length := by simp at hi; omega
    have hoo : o' = o := by
     rw [← Array.getElem?_toList, h, hie, hl, List.getElem?_append_right (Nat.le_refl _)] at ho'
     simpa using ho'.symm
    subst hoo
    have hget : getN (acc ++ [directs o' ++ joinN acc (directs o')]) i = directs o' ++ joinN acc (directs o') := by
     simp only [getN]
     rw [hie, List.getElem?_append_right (Nat.le_refl _)]
     simp
    rw [hget] at hk
    rcases List.mem_append.1 hk with hk | hk
    · obtain ⟨e, h1, h2, rfl⟩ := directs_mem hk
      exact haf e h1 h2
    · obtain ⟨j, hj, hkj⟩ := joinN_mem hk
      obtain ⟨e, h1, h2, rfl⟩ := directs_mem hj
      have hsj := haf e h1 h2
      by_cases hjl : e.on < acc.length
      · have hja : e.on < all.size := by
         rw [← Array.length_toList, h, List.length_append]
         omega
        obtain ⟨oj, hoj⟩ : ∃ oj, all[e.on]? = some oj := ⟨all[e.on], by simp [hja]⟩
        exact hok e.on hjl oj hoj sel hcl (fun e' he' hb' => hcl e.on oj hoj e' he' hb' hsj) k hkj
      · simp only [getN] at hkj
        rw [List.getElem?_eq_none (by omega)] at hkj
        simp at hkj
theorem dps_all {all : Array Oper} {i : Nat} {o : Oper} (ho : all[i]? = some o) {sel : Nat → Bool} (hcl : ClosedS all sel) (haf : ∀ e ∈ o.after.toList, Region.binds .any e = true → sel e.on = true) : ∀ k ∈ getN (dpsGo all.toList []) i, sel k = true := by
 obtain ⟨h1, h2⟩ := dpsGo_ok (all := all) (l := all.toList) (pre := []) (acc := []) (by simp) rfl (fun i hi => by simp at hi)
 exact h1 i (by rw [h2]; exact (Array.getElem?_eq_some_iff.1 ho).1) o ho sel hcl haf
end Go.Ty
namespace Go.Ty
open Go Go.Sx
section
variable {E : Env} {G : Nat → Option Con} {p : Par} {κ κ' : Ctx} {st st' : St} {all : Array Oper} {dps : List (List Nat)} {inf : List TI} {es : List DE}
structure DF (E : Env) (G : Nat → Option Con) (st : St) (all : Array Oper) (dps : List (List Nat)) (inf : List TI) (x : DE) (r : List DE) : Prop where
 ix : x.ix = r.length
 o : all[x.ix]? = some x.o
 n : x.I.n = nidOf st r
 I : x.I = inOf st all dps inf r x.ix (nidOf st r)
 dp : x.dp = getN dps x.ix
 op : entE E G all x.I x.o = some x.e
 ok : entOk E st all inf r x = true
def TR (E : Env) (G : Nat → Option Con) (st : St) (all : Array Oper) (dps : List (List Nat)) (inf : List TI) : List DE → Prop
 | [] => True
 | x :: r => DF E G st all dps inf x r ∧ TR E G st all dps inf r
theorem dPass_ok : ∀ {l pre : List Oper} {i : Nat} {acc : List DE}, dPass E G st all dps inf l i acc = some es → all.toList = pre ++ l → pre.length = i → acc.length = i → TR E G st all dps inf acc → TR E G st all dps inf es ∧ es.length = all.size
 | [], pre, i, acc, h, hp, h1, h2, hr => by
  simp only [dPass, Option.some.injEq] at h
  subst h
  refine ⟨hr, ?_⟩
  rw [h2, ← h1, ← Array.length_toList, hp]
  simp
 | o :: r, pre, i, acc, h, hp, h1, h2, hr => by
  simp only [dPass] at h
  split at h <;> try contradiction
  rename_i e he
  split at h <;> try contradiction
  rename_i hok
  refine dPass_ok (pre := pre ++ [o]) h (by rw [hp]; simp) (by simp [h1]) (by simp [h2]) ⟨⟨h2.symm, ?_, rfl, rfl, rfl, he, hok⟩, hr⟩
  rw [← Array.getElem?_toList, hp, ← h1, List.getElem?_append_right (Nat.le_refl _)]
  simp
theorem TR.mem : ∀ {es : List DE}, TR E G st all dps inf es → ∀ {x : DE}, x ∈ es → ∃ r l, es = l ++ x :: r ∧ DF E G st all dps inf x r ∧ TR E G st all dps inf r
 | [], _, x, hx => by simp at hx
 | y :: es, h, x, hx => by
  rcases List.mem_cons.1 hx with rfl | hx
  · exact ⟨es, [], rfl, h.1, h.2⟩
  · obtain ⟨r, l, h1, h2, h3⟩ := TR.mem h.2 hx
    exact ⟨r, y :: l, by rw [h1]; rfl, h2, h3⟩
theorem TR.lt (h : TR E G st all dps inf es) : ∀ x ∈ es, x.ix < es.length ∧ x.I.n + x.e.new.length ≤ nidOf st es := by
 induction es with
 | nil => intro x hx; simp at hx
 | cons y es ih =>
  intro x hx
  rcases List.mem_cons.1 hx with hx | hx
  · subst hx
    exact ⟨by rw [h.1.ix]; simp, Nat.le_refl _⟩
  · obtain ⟨h1, h2⟩ := ih h.2 x hx
    refine ⟨by simp; omega, ?_⟩
    have := h.1.n
    simp only [nidOf]
    omega
theorem TR.ge : ∀ {es : List DE}, TR E G st all dps inf es → st.nid ≤ nidOf st es
 | [], _ => Nat.le_refl _
 | y :: es, h => by
  have := TR.ge h.2
  have := h.1.n
  simp only [nidOf]
  omega
theorem TR.uniq (h : TR E G st all dps inf es) {x y : DE} (hx : x ∈ es) (hy : y ∈ es) (he : x.ix = y.ix) : x = y := by
 induction es with
 | nil => simp at hx
 | cons z es ih =>
  have hix := h.1.ix
  rcases List.mem_cons.1 hx with hx1 | hx1 <;> rcases List.mem_cons.1 hy with hy1 | hy1
  · rw [hx1, hy1]
  · have := (TR.lt h.2 _ hy1).1
    rw [← he, hx1, hix] at this
    omega
  · have := (TR.lt h.2 _ hx1).1
    rw [he, hy1, hix] at this
    omega
  · exact ih h.2 hx1 hy1
theorem TR.at (h : TR E G st all dps inf es) {i : Nat} (hi : i < es.length) : ∃ x ∈ es, x.ix = i := by
 induction es with
 | nil => simp at hi
 | cons z es ih =>
  by_cases hz : z.ix = i
  · exact ⟨z, by simp, hz⟩
  · have := h.1.ix
    obtain ⟨x, h1, h2⟩ := ih h.2 (by simp at hi; omega)
    exact ⟨x, by simp [h1], h2⟩
theorem TR.order (h : TR E G st all dps inf es) {x y : DE} (hx : x ∈ es) (hy : y ∈ es) (hlt : x.ix < y.ix) : x.I.n + x.e.new.length ≤ y.I.n ∧ ∃ r l, es = l ++ y :: r ∧ x ∈ r ∧ DF E G st all dps inf y r ∧ TR E G st all dps inf r := by
 obtain ⟨r, l, h1, h2, h3⟩ := h.mem hy
 have hxr : x ∈ r := by
  obtain ⟨z, hz, hzx⟩ := h3.at (i := x.ix) (by rw [← h2.ix]; exact hlt)
  have : z = x := h.uniq (by rw [h1]; simp [hz]) hx hzx
  rw [← this]; exact hz
 exact ⟨by have := (h3.lt _ hxr).2; rw [h2.n]; exact this, r, l, h1, hxr, h2, h3⟩
theorem findE_mem {j : Nat} {x : DE} : ∀ {acc : List DE}, findE acc j = some x → x ∈ acc ∧ x.ix = j
 | [], h => by simp [findE] at h
 | y :: r, h => by
  simp only [findE] at h
  split at h
  · rename_i hj
    simp only [Option.some.injEq] at h
    subst h
    exact ⟨by simp, Nat.eq_of_beq_eq_true hj⟩
  · obtain ⟨h1, h2⟩ := findE_mem h
    exact ⟨by simp [h1], h2⟩
theorem dstIx_some {t j : Nat} : ∀ {l : List Oper} {k : Nat}, dstIx l t k = some j → ∃ o, k ≤ j ∧ l[j - k]? = some o ∧ o.dst = some t
 | [], _, h => by simp [dstIx] at h
 | o :: r, k, h => by
  simp only [dstIx] at h
  split at h
  · rename_i d hd
    split at h
    · rename_i hdt
      simp only [Option.some.injEq] at h
      subst h
      exact ⟨o, Nat.le_refl _, by simp, by rw [hd, Nat.eq_of_beq_eq_true hdt]⟩
    · obtain ⟨o', h1, h2, h3⟩ := dstIx_some h
      exact ⟨o', by omega, by rw [show j - k = (j - (k + 1)) + 1 by omega]; simpa using h2, h3⟩
  · obtain ⟨o', h1, h2, h3⟩ := dstIx_some h
    exact ⟨o', by omega, by rw [show j - k = (j - (k + 1)) + 1 by omega]; simpa using h2, h3⟩
theorem dstIx_none {t : Nat} : ∀ {l : List Oper} {k : Nat}, dstIx l t k = none → ∀ o ∈ l, o.dst ≠ some t
 | [], _, _, o, ho => by simp at ho
 | o :: r, k, h, o', ho' => by
  simp only [dstIx] at h
  split at h
  · rename_i d hd
    split at h <;> try contradiction
    rename_i hdt
    rcases List.mem_cons.1 ho' with rfl | ho'
    · rw [hd]
      intro hh
      simp only [Option.some.injEq] at hh
      rw [hh] at hdt
      simp at hdt
    · exact dstIx_none h o' ho'
  · rename_i hd
    rcases List.mem_cons.1 ho' with rfl | ho'
    · rw [hd]; simp
    · exact dstIx_none h o' ho'
theorem tchAll_spec {q t : Nat} {f : Nat → Bool} : ∀ {l : List TI} {k : Nat}, tchAll q t f k l = true → ∀ j ti, l[j]? = some ti → tch ti q t = true → f (k + j) = true
 | [], _, _, j, ti, h, _ => by simp at h
 | x :: r, k, h, j, ti, hj, ht => by
  simp only [tchAll] at h
  split at h <;> try contradiction
  rename_i hc
  cases j with
  | zero =>
   simp at hj
   subst hj
   simpa [ht] using hc
  | succ j =>
   simp at hj
   have := tchAll_spec h j ti hj ht
   rwa [show k + (j + 1) = k + 1 + j by omega]
theorem eqWr_eq : ∀ {a b : List (Nat × Nat)}, eqWr a b = true → a = b
 | [], [], _ => rfl
 | (x, y) :: r, (z, u) :: s, h => by
  simp only [eqWr, Bool.and_eq_true, Nat.beq_eq] at h
  rw [h.1.1, h.1.2, eqWr_eq h.2]
 | [], _ :: _, h => by simp [eqWr] at h
 | _ :: _, [], h => by simp [eqWr] at h
theorem eqK_eq : ∀ {a b : List (Bool × Nat)}, eqK a b = true → a = b
 | [], [], _ => rfl
 | (x, y) :: r, (z, u) :: s, h => by
  simp only [eqK, Bool.and_eq_true, beq_iff_eq, Nat.beq_eq] at h
  rw [h.1.1, h.1.2, eqK_eq h.2]
 | [], _ :: _, h => by simp [eqK] at h
 | _ :: _, [], h => by simp [eqK] at h
theorem offN_iff {n m i : Nat} : offN n m i = true ↔ ¬ (n ≤ i ∧ i < n + m) := by
 simp only [offN, Bool.or_eq_true, blt_iff, Nat.ble_eq]; omega
theorem offC_off {n m : Nat} {c : AC} (h : offC n m c = true) : c.off n m := by
 cases c with
 | bool b =>
  cases b with
  | lit _ => trivial
  | cmp c i d j e =>
   simp only [offC, Bool.and_eq_true, offN_iff] at h
   exact h
 | int k i d => exact offN_iff.1 h
 | slc k i d => exact offN_iff.1 h
 | ptr k i d => exact offN_iff.1 h
 | _ => trivial
theorem offLs_off {n m : Nat} : ∀ {l : List AC}, offLs n m l = true → offL n m l
 | [], _ => by simp [offL]
 | c :: l, h => by
  simp only [offLs] at h
  split at h <;> try contradiction
  rename_i hc
  intro x hx
  rcases List.mem_cons.1 hx with rfl | hx
  · exact offC_off hc
  · exact offLs_off h x hx
theorem offPs_off {n m : Nat} : ∀ {l : List (Bool × List AC)}, offPs n m l = true → ∀ q ∈ l, offL n m q.2
 | [], _ => by simp
 | c :: l, h => by
  simp only [offPs] at h
  split at h <;> try contradiction
  rename_i hc
  intro x hx
  rcases List.mem_cons.1 hx with rfl | hx
  · exact offLs_off hc
  · exact offPs_off h x hx
theorem offV_off {n m : Nat} {v : AV} (h : offV n m v = true) : v.off n m := by
 cases v with
 | ud => trivial
 | one c => exact offC_off h
 | agg l => exact offLs_off h
 | tup ps => exact offPs_off h
theorem offT_mem {n m : Nat} : ∀ {l : List (Nat × Nat)}, offT n m l = true → ∀ x ∈ l, ¬ (n ≤ x.1 ∧ x.1 < n + m) ∧ ¬ (n ≤ x.2 ∧ x.2 < n + m)
 | [], _, x, hx => by simp at hx
 | (i, j) :: l, h, x, hx => by
  simp only [offT] at h
  split at h <;> try contradiction
  rename_i hc
  simp only [Bool.and_eq_true, offN_iff] at hc
  rcases List.mem_cons.1 hx with rfl | hx
  · exact hc
  · exact offT_mem h x hx
theorem offM_mem {n m : Nat} : ∀ {l : List (Nat × TypeId × List AC)}, offM n m l = true → ∀ x ∈ l, ¬ (n ≤ x.1 ∧ x.1 < n + m) ∧ offL n m x.2.2
 | [], _, x, hx => by simp at hx
 | (q, t, c) :: l, h, x, hx => by
  simp only [offM] at h
  split at h <;> try contradiction
  rename_i hc
  simp only [Bool.and_eq_true, offN_iff] at hc
  rcases List.mem_cons.1 hx with rfl | hx
  · exact ⟨hc.1, offLs_off hc.2⟩
  · exact offM_mem h x hx
theorem offAll_mem {dp : List Nat} {e : Ef} {c : List (Nat × TypeId × List AC)} : ∀ {acc : List DE}, offAll dp e c acc = true → ∀ x ∈ acc, x.ix ∈ dp ∨ (e.av.off x.I.n x.e.new.length ∧ (∀ y ∈ e.lts, ¬ (x.I.n ≤ y.1 ∧ y.1 < x.I.n + x.e.new.length) ∧ ¬ (x.I.n ≤ y.2 ∧ y.2 < x.I.n + x.e.new.length)) ∧ ∀ y ∈ c, ¬ (x.I.n ≤ y.1 ∧ y.1 < x.I.n + x.e.new.length) ∧ offL x.I.n x.e.new.length y.2.2)
 | [], _, x, hx => by simp at hx
 | z :: r, h, x, hx => by
  simp only [offAll] at h
  split at h <;> try contradiction
  rename_i hc
  rcases List.mem_cons.1 hx with rfl | hx
  · simp only [Bool.or_eq_true, Bool.and_eq_true] at hc
    rcases hc with hc | ⟨⟨h1, h2⟩, h3⟩
    · exact .inl (memN_iff.1 hc)
    · exact .inr ⟨offV_off h1, offT_mem h2, offM_mem h3⟩
  · exact offAll_mem h x hx
theorem conOkM_mem {n' : Nat} {ps : List Nat} : ∀ {l : List (Nat × TypeId × List AC)}, conOkM n' ps l = true → ∀ x ∈ l, x.1 ∈ ps ∧ ltLs n' x.2.2 = true
 | [], _, x, hx => by simp at hx
 | (q, t, c) :: l, h, x, hx => by
  simp only [conOkM] at h
  split at h <;> try contradiction
  rename_i hc
  simp only [Bool.and_eq_true] at hc
  rcases List.mem_cons.1 hx with rfl | hx
  · exact ⟨memN_iff.1 hc.1, hc.2⟩
  · exact conOkM_mem h x hx
theorem newL_mem {dp : List Nat} {q : Nat} : ∀ {acc : List DE}, q ∈ newL dp acc → ∃ x ∈ acc, x.ix ∈ dp ∧ x.e.nb ≠ none ∧ q = x.I.n
 | [], h => by simp [newL] at h
 | x :: r, h => by
  simp only [newL] at h
  split at h
  · rename_i hc
    simp only [Bool.and_eq_true] at hc
    rcases List.mem_cons.1 h with rfl | h
    · exact ⟨x, by simp, memN_iff.1 hc.1, by intro hh; rw [hh] at hc; simp at hc, rfl⟩
    · obtain ⟨y, h1, h2⟩ := newL_mem h
      exact ⟨y, by simp [h1], h2⟩
  · obtain ⟨y, h1, h2⟩ := newL_mem h
    exact ⟨y, by simp [h1], h2⟩
theorem idsL_look {dp : List Nat} {k : Nat} {b : Bd} : ∀ {acc : List DE}, Sx.look (idsL dp acc) k = some b → ∃ x ∈ acc, x.ix ∈ dp ∧ x.I.n ≤ k ∧ x.e.new[k - x.I.n]? = some b
 | [], h => by simp [idsL, Sx.look] at h
 | x :: r, h => by
  simp only [idsL] at h
  split at h
  · rename_i hc
    rw [look_append, look_numB] at h
    split at h
    · rename_i b' hb
      simp only [Option.some.injEq] at h
      subst h
      split at hb
      · rename_i hle
        exact ⟨x, by simp, memN_iff.1 hc, hle, hb⟩
      · contradiction
    · obtain ⟨y, h1, h2⟩ := idsL_look h
      exact ⟨y, by simp [h1], h2⟩
  · obtain ⟨y, h1, h2⟩ := idsL_look h
    exact ⟨y, by simp [h1], h2⟩
theorem ltsL_mem {dp : List Nat} {z : Nat × Nat} : ∀ {acc : List DE}, z ∈ ltsL dp acc → ∃ x ∈ acc, x.ix ∈ dp ∧ z ∈ x.e.lts
 | [], h => by simp [ltsL] at h
 | x :: r, h => by
  simp only [ltsL] at h
  split at h
  · rename_i hc
    rcases List.mem_append.1 h with h | h
    · exact ⟨x, by simp, memN_iff.1 hc, h⟩
    · obtain ⟨y, h1, h2⟩ := ltsL_mem h
      exact ⟨y, by simp [h1], h2⟩
  · obtain ⟨y, h1, h2⟩ := ltsL_mem h
    exact ⟨y, by simp [h1], h2⟩
theorem look_in {α : Type} {l : List (Nat × α)} {q : Nat} {x : α} (h : Sx.look l q = some x) : (q, x) ∈ l := mem_of_look h
theorem memF_spec {dp : List Nat} {i : Nat} {base : Nat → Option (TypeId × List AC)} {q t : Nat} {l : List AC} : ∀ {acc : List DE}, memF inf dps dp i base acc q = some (t, l) →
  (base q = some (t, l) ∧ ∀ k ti, inf[k]? = some ti → tch ti q t = true → k = i ∨ i ∈ getN dps k) ∨
  (∃ x ∈ acc, x.ix ∈ dp ∧ (q, t, l) ∈ x.content ∧ ∀ k ti, inf[k]? = some ti → tch ti q t = true → k = i ∨ k = x.ix ∨ k ∈ x.dp ∨ i ∈ getN dps k)
 | [], h => by
  simp only [memF] at h
  split at h <;> try contradiction
  rename_i t' l' hb
  split at h <;> try contradiction
  rename_i hc
  simp only [Option.some.injEq, Prod.mk.injEq] at h
  obtain ⟨rfl, rfl⟩ := h
  refine .inl ⟨hb, fun k ti hk ht => ?_⟩
  have := tchAll_spec hc k ti hk ht
  simp only [Nat.zero_add, Bool.or_eq_true, Nat.beq_eq] at this
  exact this.imp id memN_iff.1
 | x :: r, h => by
  have again : memF inf dps dp i base r q = some (t, l) → ((base q = some (t, l) ∧ ∀ k ti, inf[k]? = some ti → tch ti q t = true → k = i ∨ i ∈ getN dps k) ∨
    (∃ y ∈ x :: r, y.ix ∈ dp ∧ (q, t, l) ∈ y.content ∧ ∀ k ti, inf[k]? = some ti → tch ti q t = true → k = i ∨ k = y.ix ∨ k ∈ y.dp ∨ i ∈ getN dps k)) :=
   fun hh => (memF_spec hh).imp id (fun ⟨y, h1, h2⟩ => ⟨y, List.mem_cons_of_mem x h1, h2⟩)
  simp only [memF] at h
  split at h
  · rename_i hdp
    split at h
    · rename_i t' l' hl
      split at h
      · rename_i hc
        simp only [Option.some.injEq, Prod.mk.injEq] at h
        obtain ⟨rfl, rfl⟩ := h
        refine .inr ⟨x, by simp, memN_iff.1 hdp, look_in hl, fun k ti hk ht => ?_⟩
        have := tchAll_spec hc k ti hk ht
        simp only [Nat.zero_add, Bool.or_eq_true, Nat.beq_eq] at this
        rcases this with ((h | h) | h) | h
        · exact .inl h
        · exact .inr (.inl h)
        · exact .inr (.inr (.inl (memN_iff.1 h)))
        · exact .inr (.inr (.inr (memN_iff.1 h)))
      · exact again h
    · exact again h
  · exact again h
end
end Go.Ty
