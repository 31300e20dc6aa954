/- A part of the proof: the reference is safe, both packages write and read alike. Several texts in one; printed by slim28.py out of the texts of wip. -/
import Derived.Test.YtjmnolhkkpaodaaGreatDoorZ27
import Derived.Test.YtjmnolhkkpaodaaGreatDoorRows
set_option linter.all false
namespace Go.Proofs.YtjmnolhkkpaodaaGreatDoor
open Go Go.Sx Go.Ty Go.RowKit
section
variable {p : Par} {κ : Ctx} {S : SB'} {L : Int} {w w' : World}
theorem fndR_lt (W : World) (a : Option Addr) (at' : Int) (n : Nat) : -1 ≤ fndR W a at' n ∧ fndR W a at' n < (n : Int) := by
 rcases fndR_rng W a at' n with h | ⟨h1, h2⟩
 · exact h
 · subst h1; rw [h2]; decide
theorem find_con (hT : p.T = T28) (mx : Nat) : ConOk Tryz.prog mx p 111 (conFind mx) := by
 refine ⟨⟨Tryz.f111, Tryz.func111, by kernel_rfl, by kernel_rfl⟩, ?_⟩
 intro κ I a w L l vs e hcon hI hvs hoff hW _ _ hM
 unfold conFind at hcon
 split at hcon <;> try contradiction
 rename_i l x y
 split at hcon <;> try contradiction
 rename_i u a1 h1 u1 e1 e2 e3
 split at hcon <;> try contradiction
 rename_i hc
 simp only [Option.some.injEq] at hcon
 subst hcon
 simp only [Bool.and_eq_true, leI_iff] at hc
 match vs, hvs with
 | [v, z], ⟨hv, hy, _⟩ =>
  obtain ⟨q, rfl, _⟩ := fitV_sound hI hM e3 hy (L := (I.A : Int) * p.M + I.K + u1) (Int.le_refl _)
  simp only [AV.has, AC.has] at hv
  obtain ⟨ad, len, c, rfl, hlen, hr⟩ := regRow hT hW hv
  refine (find_calls hr q).mono ?_
  rintro en w' ⟨rfl, hb⟩
  obtain ⟨f1, f2⟩ := fndR_lt w ad q len
  have hx : x < I.n := by
   have := hoff (.one (.slc 132 x 0)) (by simp) 1
   have h2 := hoff (.one (.slc 132 x 0)) (by simp) (x + 1)
   simp only [AV.off, AC.off] at this h2
   omega
  refine ⟨_, κ.put I.n [fndR w ad q len], rfl, Ctx.put_agree, ?_, ?_, ?_, ?_, hb.os, hb.tape, hb.output, hb.size, fun b x h => .inl ⟨x, h⟩, fun b hlt _ _ => hb.block b hlt, by simp, by simp, by simp⟩
  · simp only [AV.has, AC.has]
    have := Ctx.put_at (κ := κ) (n := I.n) (xs := [fndR w ad q len]) (j := 0) rfl
    rw [Nat.add_zero] at this
    rw [this, Int.add_zero]
  · intro j b hj
    cases j with
    | zero =>
     simp only [List.getElem?_cons_zero, Option.some.injEq] at hj
     subst hj
     rw [Ctx.put_at (x := fndR w ad q len) rfl]
     have := upm_le hI e2
     simp only [Bd.ok]
     omega
    | succ j => simp at hj
  · intro q hq
    simp only [List.mem_singleton] at hq
    subst hq
    simp only
    have := Ctx.put_at (κ := κ) (n := I.n) (xs := [fndR w ad q len]) (j := 0) rfl
    rw [Nat.add_zero] at this
    rw [this, (Ctx.put_agree (κ := κ) (n := I.n) (xs := [fndR w ad q len])).ρ x (by omega)]
    omega
  · exact (WT.below hW hb).mono (by simp)
theorem put_con (hT : p.T = T28) (mx : Nat) : ConOk Tryz.prog mx p 56 (conPut mx) := by
 refine ⟨⟨Tryz.f56, Tryz.func56, by kernel_rfl, by kernel_rfl⟩, ?_⟩
 intro κ I a w L l vs e hcon hI hvs hoff hW _ _ hM
 unfold conPut at hcon
 split at hcon <;> try contradiction
 rename_i l x d y
 split at hcon <;> try contradiction
 rename_i u a1 h1 u1 e1 e2 e3
 split at hcon <;> try contradiction
 rename_i hc
 simp only [leI_iff] at hc
 have b5 := upb_le hI hM e1
 match vs, hvs with
 | [v, z], ⟨hv, hy, _⟩ =>
  obtain ⟨ys, rfl, hy2⟩ := fitV_sound hI hM e3 hy (L := (I.A : Int) * p.M + I.K + u1) (Int.le_refl _)
  obtain ⟨q1, q2, hys, b1, b2, b3, b4⟩ : ∃ q1 q2, ys = #[.int .u16 q1, .int .u8 q2] ∧ 0 ≤ q1 ∧ q1 ≤ 65535 ∧ 0 ≤ q2 ∧ q2 ≤ 255 := by
   obtain ⟨ys⟩ := ys
   match ys, hy2 with
   | [y1, y2], ⟨⟨q1, k1, k2, k3⟩, ⟨q2, k4, k5, k6⟩, _⟩ =>
    subst k1 k4
    exact ⟨q1, q2, rfl, k2, k3, k5, k6⟩
  subst hys
  simp only [AV.has, AC.has] at hv
  obtain ⟨ad, len, c, rfl, hlen, hr⟩ := cellRow hT hW hv
  have hlen0 : (len : Int) ≤ 1000000000000 := by omega
  refine (put_calls hr (by omega) q1 q2).mono ?_
  rintro en w' ⟨a', c', rfl, hown, hb⟩
  obtain ⟨Lst, hL⟩ : ∃ Lst, RowIs w ad len c Lst := by
   refine ⟨(List.range len).map fun (j : Nat) => (cAt w ad j, cVal w ad j), hr, by simp, fun j hj => by simp [hj]⟩
  obtain ⟨k1, k2⟩ := putR_list hL q1 q2
  have hrng := Rng.put (p := q1) (q := q2) ⟨by omega, by omega⟩ hL.rng
  generalize hn : putL q1 q2 Lst = Ln at *
  have hle : Ln.length ≤ len + 1 := by
   have := putL_len hL q1 q2
   rw [hn, hL.len] at this
   exact this
  rw [k1, k2] at hown
  rw [k1]
  obtain ⟨S', hS1, hS2, hS3, hS4⟩ : ∃ S', SExt κ.S S' ∧ WT p S' L w' ∧ Sl S' 97 (.slice a' Ln.length c') Ln.length ∧ ∀ b x, S' b = some x → (∃ y, κ.S b = some y) ∨ w.heap.size ≤ b := by
   rcases hown.2 with ⟨g1, g2⟩ | ⟨g, cap, cur, g1, g2, g3, g4, g5, g6, g7⟩
   · refine ⟨κ.S, .refl _, WT.below hW hb, ⟨a', _, c', rfl, rfl, .inl ?_⟩, fun b x h => .inl ⟨x, h⟩⟩
     injection g1 with g1 g3 g4
     exact ⟨g1, g2, g4⟩
   · injection g1 with g1 g8 g9
     subst g1 g9
     have hSg : κ.S g = none := by
      cases hh : κ.S g with
      | none => rfl
      | some z => have := WT.lt hW hh; omega
     have hext : SExt κ.S (SB'.put κ.S g ⟨true, 97, Ln.length, c'⟩) := by
      intro b x hx
      refine ⟨x.k, ?_, Nat.le_refl _, fun _ => rfl⟩
      simp only [SB'.put]
      rw [if_neg]
      · exact hx
      · rintro rfl; rw [hSg] at hx; cases hx
     refine ⟨SB'.put κ.S g ⟨true, 97, Ln.length, c'⟩, hext, ?_, ⟨some ⟨g, 0, none⟩, _, c', rfl, rfl, .inr ⟨g, Ln.length, rfl, by simp [SB'.put], Nat.le_refl _⟩⟩, fun b x hx => ?_⟩
     · have hW' := WT.below hW hb
       refine ⟨hW'.old, hW'.size, fun b x hx => ?_⟩
       simp only [SB'.put] at hx
       split at hx
       · rename_i hbg
         subst hbg
         simp only [Option.some.injEq] at hx
         subst hx
         refine ⟨Nat.le_trans hW.size g2, g4, g5, [kU16, kU8], cur, by rw [hT]; rfl, by decide, g3, g6, ?_⟩
         intro j o ct hj ho
         have hj : j < Ln.length := hj
         obtain ⟨z, hz⟩ : ∃ z, Ln[j]? = some z := ⟨_, List.getElem?_eq_getElem hj⟩
         obtain ⟨t1, t2⟩ := toXs_get Ln j z hz
         have hzr := hrng.rng z (List.mem_of_getElem? hz)
         have get : ∀ (o : Nat) (s : SV), o < 2 → (toXs Ln)[j * 2 + o]? = some s → cur[j * 2 + o]? = some (SV.den (fun _ => 0) s) := by
          intro o s ho hs
          have h3 : ((toXs Ln).map (SV.den fun _ => 0))[j * 2 + o]? = some (SV.den (fun _ => 0) s) := by rw [List.getElem?_map, hs]; rfl
          rw [← g7, List.getElem?_take, if_pos (by omega), Array.getElem?_toList] at h3
          exact h3
         match o, ho with
         | 0, ho =>
          simp only [List.getElem?_cons_zero, Option.some.injEq] at ho
          subst ho
          exact ⟨_, get 0 _ (by omega) t1, z.1, rfl, hzr.1⟩
         | 1, ho =>
          simp only [List.getElem?_cons_succ, List.getElem?_cons_zero, Option.some.injEq] at ho
          subst ho
          exact ⟨_, get 1 _ (by omega) t2, z.2, rfl, hzr.2⟩
         | o + 2, ho => simp at ho
       · obtain ⟨q1, q2, q3, ts, arr, q4, q5, q6, q7, q8⟩ := hW'.blk b x hx
         refine ⟨q1, q2, q3, ts, arr, q4, q5, q6, q7, fun j o ct hj ho => ?_⟩
         obtain ⟨v, r1, r2⟩ := q8 j o ct hj ho
         exact ⟨v, r1, CT.has_mono hext (Int.le_refl _) r2⟩
     · simp only [SB'.put] at hx
       split at hx
       · rename_i hbg; right; omega
       · exact .inl ⟨x, hx⟩
  have hx1 := hoff (.one (.slc 97 x d)) (by simp) 1
  have hx2 := hoff (.one (.slc 97 x d)) (by simp) (x + 1)
  simp only [AV.off, AC.off] at hx1 hx2
  have hx : x < I.n := by omega
  have put_n : (κ.put I.n [(Ln.length : Int) - (d + 1)]).ρ I.n = (Ln.length : Int) - (d + 1) := by
   have := Ctx.put_at (κ := κ) (n := I.n) (xs := [(Ln.length : Int) - (d + 1)]) (j := 0) rfl
   rwa [Nat.add_zero] at this
  have put_o : ∀ i, i < I.n → (κ.put I.n [(Ln.length : Int) - (d + 1)]).ρ i = κ.ρ i := fun i hi => (Ctx.put_agree (κ := κ) (n := I.n) (xs := [(Ln.length : Int) - (d + 1)])).ρ i (by omega)
  have hlex : (Ln.length : Int) - (d + 1) ≤ κ.ρ x := by omega
  have val : AV.has p.T p.v0 ⟨(κ.put I.n [(Ln.length : Int) - (d + 1)]).ρ, κ.π, S'⟩ (.one (.slc 97 I.n (d + 1))) (.slice a' Ln.length c') := by
   simp only [AV.has, AC.has, put_n]
   rw [show (Ln.length : Int) - (d + 1) + (d + 1) = Ln.length by omega]
   exact hS3
  have agree : ∀ _ : Nat, Agree κ ⟨(κ.put I.n [(Ln.length : Int) - (d + 1)]).ρ, κ.π, S'⟩ I.n 1 := fun _ => ⟨fun i hi => (Ctx.put_agree (κ := κ) (n := I.n) (xs := [(Ln.length : Int) - (d + 1)])).ρ i hi, fun _ _ => rfl, hS1⟩
  have new : ∀ (a2 : Nat) (h2 : Int), (Ln.length : Int) - (d + 1) ≤ (a2 : Int) * p.M + h2 → ∀ (j : Nat) (b : Bd), [(⟨-(d + 1), a2, h2⟩ : Bd)][j]? = some b → b.ok p.M ((κ.put I.n [(Ln.length : Int) - (d + 1)]).ρ (I.n + j)) := by
   intro a2 h2 hh j b hj
   cases j with
   | zero =>
    simp only [List.getElem?_cons_zero, Option.some.injEq] at hj
    subst hj
    rw [Nat.add_zero, put_n]
    simp only [Bd.ok]
    omega
   | succ j => simp at hj
  split at hcon
  · rename_i a2 h2 f1 f2
    simp only [Option.some.injEq] at hcon
    subst hcon
    have h3 := upm_le hI f2
    have h4 := hI.lts _ _ f1
    have h5 : x + 1 < I.n := by
     unfold upm at f2
     rw [show Nat.beq (x + 1) 0 = false from rfl] at f2
     simp only at f2
     split at f2 <;> try contradiction
     rename_i b hb'
     exact hI.offB _ b hb'
    refine ⟨_, ⟨(κ.put I.n [(Ln.length : Int) - (d + 1)]).ρ, κ.π, S'⟩, rfl, agree 0, val, new a2 (h2 - 1) (by omega), ?_, hS2.mono (by simp), hb.os, hb.tape, hb.output, hb.size, hS4, fun b hlt _ _ => hb.block b hlt, by simp, by simp, by simp⟩
    intro q hq
    simp only [List.mem_singleton] at hq
    subst hq
    simp only
    rw [put_n, put_o _ h5]
    omega
  · simp only [Option.some.injEq] at hcon
    subst hcon
    have h3 := upm_le hI e2
    exact ⟨_, ⟨(κ.put I.n [(Ln.length : Int) - (d + 1)]).ρ, κ.π, S'⟩, rfl, agree 0, val, new a1 h1 (by omega), by simp, hS2.mono (by simp), hb.os, hb.tape, hb.output, hb.size, hS4, fun b hlt _ _ => hb.block b hlt, by simp, by simp, by simp⟩
end
end Go.Proofs.YtjmnolhkkpaodaaGreatDoor
namespace Go.Sx
open Go Go.RowKit
def nMem (T : TypeId) (a : Option Addr) (n c : Nat) (x : SI) : Mem := ⟨[], [(0, ⟨T, [.sl a n c, .int .i64 x], true⟩)], 1⟩
def nRun (P : Program) (W : World) (G : List (Nat × Spec)) (T : TypeId) (g : FuncId) (a : Option Addr) (n c : Nat) (x : SI) (rest : List TV) : R :=
 (run P W G 100000 (.fn g (.one (.ptr 0 0) :: rest)) ⟨0, [], nMem T a n c x⟩ [] (nMem T a n c x).fresh).collapse [] (nMem T a n c x)
def nVal (T : TypeId) (a : Option Addr) (n c : Nat) (x : SI) : R → Option (SB × TV × SI)
 | .leaf (.res v) vc _ m => match (m.on (nMem T a n c x)).get 0 1 with
  | some (.int .i64 y) => match findC m.cells 0 0, look m.blks 0 with
   | none, none => some (vc, v, y)
   | _, _ => none
  | _ => none
 | _ => none
def specN (T : TypeId) (F : Option Addr → Nat → Nat → SI → List TV → Option (SB × TV × SI)) : Spec :=
 ⟨fun
  | .one (.ptr b 0) :: _ => [(b, 0, 2)]
  | _ => [],
  fun
   | .one (.ptr b 0) :: _ => [b]
   | _ => [],
  fun args C K => match args with
   | .one (.ptr b 0) :: rest => match C b 0, C b 1, K b with
    | some (.sl a n c), some (.int .i64 x), some i => match Nat.beq i.elem T && Nat.beq i.init.length 2 && i.rw with
     | true => match F a n c x rest with
      | some (vc, v, y) => some ⟨vc, v, [(b, 1, .int .i64 y)], none⟩
      | none => none
     | false => none
    | _, _, _ => none
   | _ => none⟩
theorem arr_two {α : Type} {arr : Array α} (h : arr.size = 2) {x y : α} (h0 : arr[0]? = some x) (h1 : arr[1]? = some y) : arr = #[x, y] := by
 apply Array.ext
 · rw [h]; rfl
 · intro i hi _
   rw [h] at hi
   rcases i with _ | _ | i
   · have := (Array.getElem?_eq_some_iff.1 h0).2; simpa using this
   · have := (Array.getElem?_eq_some_iff.1 h1).2; simpa using this
   · omega
theorem specN_ok {W : World} {P : Program} {G : List (Nat × Spec)} (hG : GOk W P G) {g : FuncId} {T : TypeId} {F : Option Addr → Nat → Nat → SI → List TV → Option (SB × TV × SI)}
  (fn : ∃ fn, P.funcs[g]? = some fn ∧ (fn.name == "runtime.NumGoroutine") = false ∧ fn.body.isNone = false)
  (h : ∀ a n c x rest vc v y, F a n c x rest = some (vc, v, y) → vc.val = true → allB (TV.lt 0) rest = true ∧ v.lt 0 = true ∧ v ≠ .un ∧
   ∃ x' rest' vc' v' y', x'.val = x.val ∧ allB (TV.lt 0) rest' = true ∧ rest'.map (TV.den fun _ => 0) = rest.map (TV.den fun _ => 0) ∧
    nVal T a n c x' (nRun P W G T g a n c x' rest') = some (vc', v', y') ∧ vc'.val = true ∧ y'.val = y.val ∧ ∀ f, v'.den f = v.den f) : SpecOk W P g (specN T F) := by
 refine ⟨fn, ?_⟩
 intro args C K e f w he _ hvc hC hK hW hOwn
 simp only [specN] at he
 split at he <;> try contradiction
 rename_i b rest
 split at he <;> try contradiction
 rename_i a n c x i hc0 hc1 hKb
 split at he <;> try contradiction
 rename_i hi
 simp only [Bool.and_eq_true, Nat.beq_eq] at hi
 obtain ⟨⟨hT, hlen⟩, hrw⟩ := hi
 split at he <;> try contradiction
 rename_i vc v y hF
 simp only [Option.some.injEq] at he
 subst he
 obtain ⟨h1, h2, h3, x', rest', vc', v', y', hx', h1', hr', h4, h5, h6, h7⟩ := h a n c x rest vc v y hF hvc
 have hfb : Free W (f b) := hOwn b i hKb hrw
 obtain ⟨arr, harr, hsz⟩ := hK b i hKb
 rw [hT] at harr
 rw [hlen] at hsz
 have ha0 : arr[0]? = some ((SV.sl a n c).den f) := by rw [← cell_of_blk harr]; exact hC b 0 _ hc0
 have ha1 : arr[1]? = some ((SV.int .i64 x).den f) := by rw [← cell_of_blk harr]; exact hC b 1 _ hc1
 refine ⟨h3, ?_, ?_⟩
 · intro p hp
   simp only [List.mem_singleton] at hp
   subst hp
   exact ⟨i, hKb, hrw, by rw [hlen]; exact Nat.one_lt_two⟩
 let f0 : Nat → Nat := fun _ => f b
 let X : Nat → Prop := fun j => j = f b
 have hget : ∀ b' o v, (nMem T a n c x').get b' o = some v → b' = 0 ∧ ((o = 0 ∧ v = .sl a n c) ∨ (o = 1 ∧ v = .int .i64 x')) := by
  intro b' o v hv
  simp only [nMem, Mem.get, findC, look_cons, look] at hv
  by_cases hb : 0 = b'
  · simp only [hb, if_true] at hv
    rcases o with _ | _ | o
    · simp at hv; exact ⟨hb.symm, .inl ⟨rfl, hv.symm⟩⟩
    · simp at hv; exact ⟨hb.symm, .inr ⟨rfl, hv.symm⟩⟩
    · simp at hv
  · simp [hb] at hv
 have hblk : ∀ b' j, look (nMem T a n c x').blks b' = some j → b' = 0 ∧ j = ⟨T, [.sl a n c, .int .i64 x'], true⟩ := by
  intro b' j hj
  simp only [nMem, look_cons, look] at hj
  split at hj
  · rename_i hb
    simp only [Option.some.injEq] at hj
    exact ⟨hb.symm, hj.symm⟩
  · cases hj
 have hm : MOk w X f0 ((nMem T a n c x').fresh.on (nMem T a n c x')) w := by
  rw [fresh_on]
  refine ⟨?_, ?_, ?_, ?_, ?_, ?_⟩
  · intro b' j hj
    obtain ⟨_, rfl⟩ := hblk b' j hj
    exact ⟨arr, harr, hsz⟩
  · intro b' o v hv
    obtain ⟨_, ⟨rfl, rfl⟩ | ⟨rfl, rfl⟩⟩ := hget b' o v hv
    · show w.cell? ⟨f b, 0, none⟩ = _
      rw [cell_of_blk harr, ha0]; rfl
    · show w.cell? ⟨f b, 1, none⟩ = _
      rw [cell_of_blk harr, ha1]; simp only [SV.den, hx']
  · intro b' o v hv
    obtain ⟨rfl, _⟩ := hget b' o v hv
    exact ⟨_, rfl⟩
  · intro b' c' j k hj hk _
    rw [(hblk b' j hj).1, (hblk c' k hk).1]
  · intro _ _ _ _
    exact .inr rfl
  · intro b' j hj
    rw [(hblk b' j hj).1]
    exact Nat.zero_lt_one
 have hf : Fr W w X w := ⟨rfl, rfl, rfl, Nat.le_refl _, fun _ _ _ => rfl, ⟨hW, fun j hj => by rw [hj]; exact hfb⟩⟩
 have hk : BKnown (nMem T a n c x') := by
  intro b' o v hv
  obtain ⟨rfl, _⟩ := hget b' o v hv
  exact ⟨_, rfl⟩
 unfold nVal nRun at h4
 split at h4 <;> try contradiction
 rename_i v1 vc1 s1 m1 hR
 split at h4 <;> try contradiction
 rename_i y1 hy1
 split at h4 <;> try contradiction
 rename_i hno hnb
 simp only [Option.some.injEq, Prod.mk.injEq] at h4
 obtain ⟨rfl, rfl, rfl⟩ := h4
 have hRg : ((run P W G 100000 (.fn g (.one (.ptr 0 0) :: rest')) ⟨0, [], nMem T a n c x'⟩ [] (nMem T a n c x').fresh).collapse [] (nMem T a n c x')).get = some (.res v1, vc1, s1, m1) := by
  rw [hR]; rfl
 obtain ⟨⟨e5, v5, s5, m5⟩, h8, hL⟩ := R.collapse_get hk _ hRg
 have hcalls := (sound hG (fun n hS => draw_sound hG n hS) 100000).fn w X g (.one (.ptr 0 0) :: rest') ⟨0, [], nMem T a n c x'⟩ [] (nMem T a n c x').fresh f0 w ⟨_, _, _, _, h8, hL.2.1.symm.trans h5⟩ hm hf
 have hargs : (TV.one (.ptr 0 0) :: rest').map (TV.den f0) = (TV.one (.ptr b 0) :: rest).map (TV.den f) := by
  simp only [List.map_cons]
  refine congr (congrArg _ rfl) ?_
  rw [allLt_den h1' f0 (fun _ => 0), hr', allLt_den h1 (fun _ => 0) f]
 rw [← hargs]
 refine hcalls.mono ?_
 rintro en w1 ⟨u, v2, s2, m2, f2, hr, hne, rfl, hm2, hf2, hext, _⟩
 rw [h8] at hr
 simp only [Option.some.injEq, Prod.mk.injEq] at hr
 obtain ⟨rfl, rfl, rfl, rfl⟩ := hr
 have hf20 : f2 0 = f b := hext 0 Nat.zero_lt_one
 have hm1 : MOk w X f2 (m1.on (nMem T a n c x')) w1 := hL.2.2.2.2 w X f2 w1 hm2
 constructor
 · rcases hL.1 with ⟨_, hno'⟩ | ⟨p, p', hp, hp', hd⟩
   · exact absurd rfl (hno' u)
   · simp only at hp hp'
     injection hp with hp
     injection hp' with hp'
     subst hp hp'
     obtain ⟨_, hden⟩ := hd f2 hne
     rw [← hden, h7 f2]
     exact congrArg _ (TV.lt_den h2 (fun b hb => by omega))
 · refine ⟨hf2.os, hf2.tape, hf2.output, hf2.size, fun j hj => ?_⟩
   by_cases hjb : j = f b
   · subst hjb
     have hg1 := hm1.cell 0 1 _ hy1
     have hlook0 : look (m1.on (nMem T a n c x')).blks 0 = some ⟨T, [.sl a n c, .int .i64 x'], true⟩ := by
      simp only [Mem.on, look_append, hnb]
      rfl
     have hg0 : w1.cell? ⟨f2 0, 0, none⟩ = some ((SV.sl a n c).den f2) := by
      refine hm1.cell 0 0 _ ?_
      simp only [Mem.get, Mem.on, findC_append, hno, look_append, hnb]
      rfl
     obtain ⟨arr1, harr1, hsz1⟩ := hm1.blk 0 _ hlook0
     rw [cell_of_blk harr1] at hg0 hg1
     have e1 := arr_two hsz1 hg0 hg1
     have e0 := arr_two hsz ha0 ha1
     rw [hf20] at harr1
     rw [harr1]
     show _ = (w.setCell ⟨f b, 1, none⟩ ((SV.int .i64 y).den f)).heap[f b]?
     simp only [World.setCell, Array.getElem?_modify, if_true, harr, Option.map_some]
     subst e1 e0
     simp only [SV.den, h6]
     rfl
   · rw [show (applyWs f [(b, 1, .int .i64 y)] w).heap[j]? = w.heap[j]? from heap_setCell_far (fun hh => hjb hh.symm)]
     exact hf2.same j hj hjb
end Go.Sx
namespace Go.Proofs.YtjmnolhkkpaodaaGreatDoor.mk
open Go Go.Sx
set_option maxRecDepth 100000
open Classical in
noncomputable def okRow (W : World) (a : Option Addr) (n c : Nat) : Bool := decide (RowOk W .i64 a n c)
theorem okRow_ok {W : World} {a : Option Addr} {n c : Nat} (h : okRow W a n c = true) : RowOk W .i64 a n c := by
 unfold okRow at h
 exact @of_decide_eq_true _ (Classical.propDecidable _) h
theorem okRow_of {W : World} {a : Option Addr} {n c : Nat} (h : RowOk W .i64 a n c) : okRow W a n c = true := by
 unfold okRow
 exact @decide_eq_true _ (Classical.propDecidable _) h
def plc (x k : Int) : Int := IntKind.i64.wrap ((IntKind.u64.wrap x).tmod (IntKind.u64.wrap k))
theorem plc_range {k : Int} (x : Int) (h0 : 0 < k) (h1 : k ≤ 9223372036854775807) : 0 ≤ plc x k ∧ plc x k < k := place_range x k h0 h1
def FPlc : List TV → Option (SB × TV)
 | [.one (.int .i64 x), .one (.int .i64 k)] => some (SI.cmp (fun k _ => decide (0 < k) && decide (k ≤ 9223372036854775807)) k (.lit 0), .one (.int .i64 (.sym (plc x.val k.val))))
 | _ => none
theorem u64_pos {k : Int} (h0 : 0 < k) (h1 : k ≤ 9223372036854775807) : IntKind.u64.wrap k = k := by
 have : IntKind.u64.wrap k = k % 18446744073709551616 := by simp [IntKind.wrap, IntKind.bits, IntKind.signed]
 rw [this]
 omega
theorem cmp0_val (p : Int → Bool) (k : SI) : (SI.cmp (fun k _ => p k) k (.lit 0)).val = p k.val := by cases k <;> rfl
def nxt (W : World) (a : Option Addr) (n : Nat) (x k : Int) : Int := bif decide (x ≥ (n : Int)) then 0 else plc (rdInt W (atRow a x 1)) k
theorem nxt_range (W : World) (a : Option Addr) (n : Nat) (x : Int) {k : Int} (h0 : 0 < k) (h1 : k ≤ 9223372036854775807) : 0 ≤ nxt W a n x k ∧ nxt W a n x k < k := by
 unfold nxt
 cases decide (x ≥ (n : Int))
 · exact plc_range _ h0 h1
 · exact ⟨Int.le_refl _, h0⟩
def inB (m x : Int) : Bool := decide (0 ≤ x) && decide (x ≤ 4611686018427387904 - m)
theorem inB_of {m x : Int} (h : inB m x = true) : 0 ≤ x ∧ x ≤ 4611686018427387904 - m := by
 unfold inB at h
 rw [Bool.and_eq_true, decide_eq_true_eq, decide_eq_true_eq] at h
 exact h
theorem inB_mk {m x : Int} (h : 0 ≤ x ∧ x ≤ 4611686018427387904 - m) : inB m x = true := by
 unfold inB
 rw [decide_eq_true h.1, decide_eq_true h.2]
 rfl
noncomputable def cond0 (m : Int) (W : World) (a : Option Addr) (n c : Nat) (x : SI) : SB := (SB.sym (okRow W a n c)).and (SI.cmp (fun x _ => inB m x) x (.lit 0))
theorem cond0_val {m : Int} {W : World} {a : Option Addr} {n c : Nat} {x : SI} (h : (cond0 m W a n c x).val = true) : RowOk W .i64 a n c ∧ inB m x.val = true := by
 unfold cond0 at h
 rw [SB.and_val, Bool.and_eq_true, cmp0_val (fun x => inB m x)] at h
 exact ⟨okRow_ok h.1, h.2⟩
noncomputable def FNext (W : World) (a : Option Addr) (n c : Nat) (x : SI) : List TV → Option (SB × TV × SI)
 | [.one (.int .i64 k)] => some ((cond0 0 W a n c x).and (SI.cmp (fun k _ => decide (0 < k) && decide (k ≤ 9223372036854775807)) k (.lit 0)), .one (.int .i64 (.sym (nxt W a n x.val k.val))), SI.map2 (gadd .i64) x (.lit 1))
 | _ => none
def next' (x : Int) : Int := gsub .i64 (gadd .i64 x 1) 1
theorem next'_eq {x : Int} {n c : Nat} (h0 : 0 ≤ x) (h1 : x < n) (h2 : n ≤ c) (h3 : c ≤ maxLen) : next' x = x := by
 have hm : maxLen = 9223372036854775807 := by decide
 unfold next' gadd gsub
 simp only [IntKind.wrap_i64]
 omega
theorem nextv (W : World) (a : Option Addr) (n c : Nat) (x k : Int) : nVal 81 a n c (.sym x) (nRun Tryz.prog W [] 81 26 a n c (.sym x) [.one (.int .i64 (.sym k))]) =
  some (.sym (bif decide (x ≥ (n : Int)) then true else (inRow a n (next' x) && (isInt W .i64 (atRow a (next' x) 1) && !decide (IntKind.u64.wrap k = 0)))),
   .one (.int .i64 (.sym (bif decide (x ≥ (n : Int)) then 0 else plc (rdInt W (atRow a (next' x) 1)) k))), .sym (bif decide (x ≥ (n : Int)) then gadd .i64 x 1 else gadd .i64 x 1)) := by kernel_rfl
theorem next_vc {W : World} {a : Option Addr} {n c : Nat} {x k : Int} (hr : RowOk W .i64 a n c) (h0 : 0 ≤ x) (hk0 : 0 < k) (hk1 : k ≤ 9223372036854775807) :
  (bif decide (x ≥ (n : Int)) then true else (inRow a n (next' x) && (isInt W .i64 (atRow a (next' x) 1) && !decide (IntKind.u64.wrap k = 0)))) = true ∧
  (bif decide (x ≥ (n : Int)) then 0 else plc (rdInt W (atRow a (next' x) 1)) k) = nxt W a n x k := by
 by_cases h : x ≥ (n : Int)
 · rw [decide_eq_true h]
   exact ⟨rfl, by unfold nxt; rw [decide_eq_true h]; rfl⟩
 · have hx : x < n := by omega
   rw [next'_eq h0 hx hr.le hr.max]
   refine ⟨?_, rfl⟩
   rw [decide_eq_false h]
   have hs : a.isSome = true := by
    cases a with
    | none => have := hr.nil rfl; omega
    | some a => rfl
   have hat := (hr.at_ x.toNat (by omega)).1
   have hadr : atRow a x 1 = (a.getD default).add x.toNat := by unfold atRow; rw [Nat.mul_one]
   rw [hadr, hat, u64_pos hk0 hk1]
   simp only [inRow, hs, decide_eq_true h0, decide_eq_true hx, Bool.and_self, cond_false, Bool.true_and, Bool.not_eq_true', decide_eq_false_iff_not]
   omega
theorem next_ok (W : World) : SpecOk W Tryz.prog 26 (specN 81 (FNext W)) := by
 refine specN_ok (G := []) (gok_nil W) ⟨Tryz.f26, Tryz.func26, by kernel_rfl, by kernel_rfl⟩ fun a n c x rest vc v y hF hvc => ?_
 unfold FNext at hF
 split at hF <;> try contradiction
 rename_i k
 simp only [Option.some.injEq, Prod.mk.injEq] at hF
 obtain ⟨rfl, rfl, rfl⟩ := hF
 rw [SB.and_val, Bool.and_eq_true, cmp0_val (fun k => decide (0 < k) && decide (k ≤ 9223372036854775807)), Bool.and_eq_true, decide_eq_true_eq, decide_eq_true_eq] at hvc
 obtain ⟨hr, h0⟩ := cond0_val hvc.1
 obtain ⟨h1, h2⟩ := next_vc hr (inB_of h0).1 hvc.2.1 hvc.2.2
 refine ⟨rfl, rfl, by simp, .sym x.val, [.one (.int .i64 (.sym k.val))], _, _, _, rfl, rfl, rfl, nextv W a n c x.val k.val, h1, ?_, fun f => ?_⟩
 · show (bif decide (x.val ≥ (n : Int)) then gadd .i64 x.val 1 else gadd .i64 x.val 1) = _
   rw [Bool.cond_self, SI.map2_val]
   rfl
 · show Value.int .i64 _ = Value.int .i64 _
   exact congrArg _ h2
end Go.Proofs.YtjmnolhkkpaodaaGreatDoor.mk
namespace Go.Proofs.YtjmnolhkkpaodaaGreatDoor
open Go Go.Sx Go.Ty Go.RowKit
structure PW (p : Par) : Prop where
 T : p.T = T28
 v0 : ∃ a n c, p.v0 = .slice a n c ∧ RowOk p.W .i64 a n c
section
variable {p : Par} {κ : Ctx} {S : SB'} {L : Int} {w w' : World}
theorem upd_one {w w' : World} {b : Nat} {v : SV} {x y : Value} {t : TypeId} (hu : Upd (fun _ => b) [(0, 1, v)] w w') (hb : w.heap[b]? = some (.cells #[x, y] t (0, 0))) :
  w'.heap[b]? = some (.cells #[x, v.den fun _ => b] t (0, 0)) ∧ ∀ i, i < w.heap.size → i ≠ b → w'.heap[i]? = w.heap[i]? := by
 have hlt : b < w.heap.size := (Array.getElem?_eq_some_iff.1 hb).1
 constructor
 · rw [hu.heap b hlt]
   simp only [applyWs, World.setCell, Array.getElem?_modify, if_pos, hb, Option.map_some]
   rfl
 · intro i hi hne
   rw [hu.heap i hi]
   simp only [applyWs, World.setCell, Array.getElem?_modify]
   rw [if_neg (fun h => hne h.symm)]
theorem next_con (hp : PW p) (mx : Nat) : ConOk Tryz.prog mx p 26 (conNext mx) := by
 refine ⟨⟨Tryz.f26, Tryz.func26, by kernel_rfl, by kernel_rfl⟩, ?_⟩
 intro κ I a w L l vs e hcon hI hvs hoff hW _ hL2 hM
 unfold conNext at hcon
 split at hcon <;> try contradiction
 rename_i l q i d
 split at hcon <;> try contradiction
 rename_i lo up e1 e2
 split at hcon <;> try contradiction
 rename_i hc
 simp only [Option.some.injEq] at hcon
 subst hcon
 simp only [Bool.and_eq_true, leI_iff, Nat.ble_eq] at hc
 have b1 := lob_le hI e1
 have b2 := upb_le hI hM e2
 have hAM : (I.A : Int) * p.M ≤ (I.A : Int) * mx := Int.mul_le_mul_of_nonneg_left (by omega) (by omega)
 have hLb : L ≤ 1000000000000 := by
  have h1 : ((I.A * mx + I.U : Nat) : Int) ≤ ((1000000000000 : Nat) : Int) := Int.ofNat_le.2 hc.2
  rw [Int.natCast_add, Int.natCast_mul] at h1
  omega
 match vs, hvs with
 | [v, z], ⟨hv, hy, _⟩ =>
  simp only [AV.has, AC.has] at hv hy
  obtain ⟨rfl, hS⟩ := hv
  subst hy
  obtain ⟨n1, n2, n3, ts, arr, n4, n5, n6, n7, n8⟩ := hW.blk _ _ hS
  simp only [hp.T] at n4
  have hts : ts = [.fix, .cnt] := by
   have : T28 false 81 = some [.fix, .cnt] := rfl
   rw [this] at n4
   simp only [Option.some.injEq] at n4
   exact n4.symm
  subst hts
  obtain ⟨x0, g1, g2⟩ := n8 0 0 .fix (by decide) rfl
  obtain ⟨x1, g3, N, g4, g5, g6⟩ := n8 0 1 .cnt (by decide) rfl
  simp only [CT.has] at g2
  simp only [Nat.zero_mul, Nat.zero_add] at g1 g3
  have harr : arr = #[x0, x1] := arr_two (by simpa using n7) g1 g3
  subst harr g4
  obtain ⟨ad, n, c, hv0, hrow⟩ := hp.v0
  rw [hv0] at g2
  subst g2
  generalize hk : κ.ρ i + d = k at *
  obtain ⟨s1, s2, s3⟩ := (mk.next_ok p.W).ok [.one (.ptr 0 0), .one (.int .i64 (.lit k))] (fun b o => match b, o with | 0, 0 => some (.sl ad n c) | 0, 1 => some (.int .i64 (.lit N)) | _, _ => none)
   (fun b => match b with | 0 => some ⟨81, [.sl ad n c, .int .i64 (.lit N)], true⟩ | _ => none) ⟨_, _, _, _⟩ (fun _ => κ.π q) w rfl rfl (by
    show (((mk.cond0 0 p.W ad n c (.lit N)).and _).val = true)
    rw [SB.and_val, mk.cmp0_val (fun k => decide (0 < k) && decide (k ≤ 9223372036854775807))]
    have : (mk.cond0 0 p.W ad n c (.lit N)).val = true := by
     unfold mk.cond0
     rw [SB.and_val, mk.cmp0_val (fun x => mk.inB 0 x)]
     have h1 : (SB.sym (mk.okRow p.W ad n c)).val = true := by rw [SB.val_sym]; exact mk.okRow_of hrow
     have h2 : mk.inB 0 (SI.lit N).val = true := mk.inB_mk (by show 0 ≤ N ∧ N ≤ _; omega)
     rw [h1, h2]
     rfl
    rw [this]
    have h3 : (SI.lit k).val = k := rfl
    rw [h3, decide_eq_true (show 0 < k by omega), decide_eq_true (show k ≤ 9223372036854775807 by omega)]
    rfl)
   (by
    intro b o v hbo
    dsimp only at hbo
    split at hbo <;> simp only [Option.some.injEq, reduceCtorEq] at hbo
    · subst hbo; rw [cell_of_blk n6]; rfl
    · subst hbo; rw [cell_of_blk n6]; rfl)
   (by
    intro b j hb
    dsimp only at hb
    split at hb <;> simp only [Option.some.injEq, reduceCtorEq] at hb
    subst hb
    exact ⟨_, n6, rfl⟩)
   hW.old
   (by
    intro b j _ _
    exact (Old.refl p.W).free n1)
  refine s3.mono ?_
  rintro en w' ⟨rfl, hu⟩
  have hu : Upd (fun _ => κ.π q) [(0, 1, .int .i64 (SI.map2 (gadd .i64) (.lit N) (.lit 1)))] w w' := hu
  obtain ⟨u1, u2⟩ := upd_one hu n6
  have hN : ((SV.int .i64 (SI.map2 (gadd .i64) (.lit N) (.lit 1))).den fun _ => κ.π q) = .int .i64 (N + 1) := by
   show Value.int .i64 (gadd .i64 N 1) = _
   unfold gadd
   rw [IntKind.wrap_i64]
   congr 1
   omega
  rw [hN] at u1
  obtain ⟨f1, f2⟩ := mk.nxt_range p.W ad n N (k := k) (by omega) (by omega)
  have hval : TV.den (fun _ => κ.π q) (.one (.int .i64 (.sym (mk.nxt p.W ad n (SI.lit N).val (SI.lit k).val)))) = .int .i64 (mk.nxt p.W ad n N k) := rfl
  have put_n : (κ.put I.n [mk.nxt p.W ad n N k]).ρ I.n = mk.nxt p.W ad n N k := by
   have := Ctx.put_at (κ := κ) (n := I.n) (xs := [mk.nxt p.W ad n N k]) (j := 0) rfl
   rwa [Nat.add_zero] at this
  refine ⟨_, κ.put I.n [mk.nxt p.W ad n N k], rfl, Ctx.put_agree, ?_, ?_, ?_, ?_, hu.os, hu.tape, hu.output, hu.size, fun b x h => .inl ⟨x, h⟩, ?_, by simp, by simp, by simp⟩
  · simp only [AV.has, AC.has, put_n, Int.add_zero]
    exact hval
  · intro j b hj
    cases j with
    | zero =>
     simp only [List.getElem?_cons_zero, Option.some.injEq] at hj
     subst hj
     rw [Nat.add_zero, put_n]
     simp only [Bd.ok]
     omega
    | succ j => simp at hj
  · intro z hz
    simp only at hz
    split at hz
    · rename_i hd
      simp only [List.mem_singleton] at hz
      subst hz
      simp only [Bool.and_eq_true, eqI_iff] at hd
      have hx1 := hoff (.one (.int .i64 i d)) (by simp) 1
      have hx2 := hoff (.one (.int .i64 i d)) (by simp) (i + 1)
      simp only [AV.off, AC.off] at hx1 hx2
      simp only [put_n]
      rw [(Ctx.put_agree (κ := κ) (n := I.n) (xs := [mk.nxt p.W ad n N k])).ρ i (by omega)]
      omega
    · simp at hz
  · refine ⟨⟨fun {a v} hcell => ?_⟩, Nat.le_trans hW.size hu.size, fun b x hx => ?_⟩
    · have h1 := hW.old.cell hcell
      have h2 := cell_lt h1
      have h3 := cell_lt hcell
      have hne : a.block ≠ κ.π q := by omega
      simp only [World.cell?, u2 _ h2 hne] at h1 ⊢
      exact h1
    · have hx : κ.S b = some x := hx
      by_cases hbq : b = κ.π q
      · subst hbq
        rw [hS] at hx
        simp only [Option.some.injEq] at hx
        subst hx
        refine ⟨n1, n2, n3, [.fix, .cnt], _, by rw [hp.T]; rfl, by decide, u1, rfl, ?_⟩
        intro j o ct hj ho
        have hj : j < 1 := hj
        have hj0 : j = 0 := by omega
        subst hj0
        match o, ho with
        | 0, ho =>
         simp only [List.getElem?_cons_zero, Option.some.injEq] at ho
         subst ho
         exact ⟨_, rfl, hv0.symm⟩
        | 1, ho =>
         simp only [List.getElem?_cons_succ, List.getElem?_cons_zero, Option.some.injEq] at ho
         subst ho
         exact ⟨_, rfl, N + 1, rfl, by omega, by simp only; omega⟩
        | o + 2, ho => simp at ho
      · obtain ⟨q1, q2, q3, ts, arr, q4, q5, q6, q7, q8⟩ := hW.blk b x hx
        refine ⟨q1, q2, q3, ts, arr, q4, q5, (u2 b (Array.getElem?_eq_some_iff.1 q6).1 hbq).trans q6, q7, fun j o ct hj ho => ?_⟩
        obtain ⟨v, r1, r2⟩ := q8 j o ct hj ho
        exact ⟨v, r1, CT.has_mono (.refl _) (by simp only; omega) r2⟩
  · intro b hb hno _
    refine u2 b hb ?_
    rintro rfl
    exact hno _ hS (by simp)
end
end Go.Proofs.YtjmnolhkkpaodaaGreatDoor
