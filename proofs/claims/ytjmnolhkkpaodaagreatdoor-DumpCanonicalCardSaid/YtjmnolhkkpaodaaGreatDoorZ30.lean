/- A part of the proof: the reference is safe, both packages write and read alike. Several texts in one; printed by slim28.py out of the texts of wip. -/
import Derived.Test.YtjmnolhkkpaodaaGreatDoorZ29
set_option linter.all false
namespace Go.Proofs.YtjmnolhkkpaodaaGreatDoor
open Go Go.Sx Go.Ty Go.RowKit
structure OkS (g : Nat) (sp : Sp) : Prop where
 h : ∀ p : Par, PW p → SpOk Tryz.prog p g sp
def LOk : List (Nat × Sp) → Prop
 | [] => True
 | x :: r => OkS x.1 x.2 ∧ LOk r
theorem LOk.mem : ∀ {L : List (Nat × Sp)}, LOk L → ∀ x ∈ L, OkS x.1 x.2
 | [], _, x, hx => by simp at hx
 | y :: r, h, x, hx => by
  rcases List.mem_cons.1 hx with rfl | hx
  · exact h.1
  · exact h.2.mem x hx
theorem selL_mem {f : Nat} {sp : Sp} : ∀ {L : List (Nat × Sp)}, sp ∈ selL f L → (f, sp) ∈ L
 | [], h => by simp [selL] at h
 | (g, s) :: r, h => by
  simp only [selL] at h
  split at h
  · rename_i hg
    have hg := Nat.eq_of_beq_eq_true hg
    subst hg
    rcases List.mem_cons.1 h with rfl | h
    · simp
    · exact List.mem_cons_of_mem _ (selL_mem h)
  · exact List.mem_cons_of_mem _ (selL_mem h)
theorem conA_ok {p : Par} {g : FuncId} {mx : Nat} : ∀ {l : List Sp}, l ≠ [] → (∀ sp ∈ l, SpOk Tryz.prog p g sp) → ConOk Tryz.prog mx p g (conA mx l)
 | [], h, _ => absurd rfl h
 | sp :: r, _, h => by
  have h1 := conOk_of (mx := mx) (h sp (by simp))
  refine ⟨h1.fn, ?_⟩
  intro κ I a w L l vs e he
  simp only [conA] at he
  split at he
  · rename_i e' he'
    simp only [Option.some.injEq] at he
    subst he
    exact h1.ok κ I a w L l vs e' he'
  · cases r with
    | nil => simp [conA] at he
    | cons sp' r' => exact (conA_ok (l := sp' :: r') (by simp) (fun s hs => h s (by simp at hs ⊢; exact .inr hs))).ok κ I a w L l vs e he
theorem conL_ok {p : Par} (hp : PW p) {mx : Nat} {L : List (Nat × Sp)} (hL : LOk L) : ∀ g con, conL mx L g = some con → ConOk Tryz.prog mx p g con := by
 intro g con h
 unfold conL at h
 split at h
 · rename_i c hc
   simp only [Option.some.injEq] at h
   subst h
   unfold conH at hc
   split at hc
   · rename_i hg
     have hg := Nat.eq_of_beq_eq_true hg
     subst hg
     simp only [Option.some.injEq] at hc
     subst hc
     exact next_con hp mx
   · split at hc
     · rename_i hg
       have hg := Nat.eq_of_beq_eq_true hg
       subst hg
       simp only [Option.some.injEq] at hc
       subst hc
       exact put_con hp.T mx
     · split at hc <;> try contradiction
       rename_i hg
       have hg := Nat.eq_of_beq_eq_true hg
       subst hg
       simp only [Option.some.injEq] at hc
       subst hc
       exact find_con hp.T mx
 · split at h <;> try contradiction
   rename_i sps hne
   simp only [Option.some.injEq] at h
   subst h
   exact conA_ok hne fun sp hs => (hL.mem _ (selL_mem hs)).h p hp
theorem PW.v0' {p : Par} (hp : PW p) : p.v0.oneCell' = true ∧ p.v0.cells = #[p.v0] := by
 obtain ⟨a, n, c, hv, _⟩ := hp.v0
 rw [hv]
 exact ⟨rfl, rfl⟩
theorem PW.Tp {p : Par} (hp : PW p) : ∀ r t ts, p.T r t = some ts → 0 < ts.length := by
 intro r t ts h
 rw [hp.T] at h
 exact T28_pos r t ts h
theorem PW.like {p q : Par} (hp : PW p) (h1 : q.T = p.T) (h2 : q.v0 = p.v0) (h3 : q.W = p.W) : PW q :=
 ⟨h1.trans hp.T, by rw [h2, h3]; exact hp.v0⟩
theorem drwX {p : Par} (hp : PW p) {sp : Sp} {L : List (Nat × Sp)} (hL : LOk L) (nt : Nat) (hM : p.M ≤ sp.mx) : DrwOk (envOf Tryz.prog T28 sp nt) p (drw (conL sp.mx L) (envOf Tryz.prog T28 sp nt)) :=
 drw_ok ⟨hp.T.symm, hM, hp.v0', hp.Tp, conL_ok hp hL⟩
theorem okC {L : List (Nat × Sp)} (hL : LOk L) {g : Nat} {sp : Sp} {sq : Rs → Rs} (hsq : SqOk sq) (h : chk Tryz.prog T28 (conL sp.mx L) (drw (conL sp.mx L)) sq cl2 4000 g sp = true) : OkS g sp :=
 ⟨fun p hp => spOk_of (D := drw (conL sp.mx L)) hp.T.symm hp.v0' hp.Tp (fun M pin => conL_ok (p := p.at M pin) (hp.like rfl rfl rfl) hL) (fun M pin nt hM => drwX (p := p.at M pin) (sp := sp) (hp.like rfl rfl rfl) hL nt hM) hsq cl2_ok h⟩
theorem okT {L : List (Nat × Sp)} (hL : LOk L) {g : Nat} {sp : Sp} (h : chkT L g sp = true) : OkS g sp := okC hL (sqL_ok 3) h
theorem ok0 {L : List (Nat × Sp)} (hL : LOk L) {g : Nat} {sp : Sp} (h : chk0 L g sp = true) : OkS g sp := okC hL (sqL_ok 0) h
theorem okE {L : List (Nat × Sp)} (hL : LOk L) {g : Nat} {sp : Sp} (h : chkE L g sp = true) : OkS g sp := okC hL (sqE_ok 1) h
theorem okI {L : List (Nat × Sp)} (hL : LOk L) {g : Nat} {sp : Sp} {J : St} {m : Nat} {up : Bool} {τ0 τs : List Tau} (h : chkI L g sp J m up τ0 τs = true) : OkS g sp :=
 ⟨fun p hp => spOk_inv (D := drw (conL sp.mx L)) hp.T.symm hp.v0' hp.Tp (fun _ h1 h2 h3 => conL_ok (hp.like h1 h2 h3) hL) (fun _ h1 h2 h3 nt hM => drwX (hp.like h1 h2 h3) hL nt hM) (sqL_ok 0) (sqL_ok 0) cl2_ok h⟩
theorem okR {L : List (Nat × Sp)} (hL : LOk L) {g nt : Nat} {sp : Sp} {sq : Rs → Rs} (hsq : SqOk sq) {fn : Func} {h0 : St} {rl rs : Rs} (hfn : Tryz.prog.funcs[g]? = some fn) (hnt : fn.ntmps = nt) (hc : fn.body = some (codeOf g)) (hst : init sp = some (st0 sp)) (hhd : chkHd sp fn (st0 sp) = true)
  (hB : loopsOf (codeOf g) = [loopOf g]) (hrun : runH (envX sp nt) (gX sp L) (dX sp L nt) sq cl2 4000 rl (codeOf g) (st0 sp) = some (rs, [h0]))
  (hloop : ∀ q : Par, EnvOk (envX sp nt) (gX sp L) q → DrwOk (envX sp nt) q (dX sp L nt) → ∃ N, LoopOk (envX sp nt) q (loopOf g) h0 rl N) (hfin : finAll Tryz.prog sp.mx sp fn.results.toList rs = true) : OkS g sp := by
 subst hnt
 exact ⟨fun p hp => spOk_rounds (p := p) (E := envX sp fn.ntmps) (D := drw (conL sp.mx L)) hp.T.symm hp.v0' hp.Tp (fun _ h1 h2 h3 => conL_ok (hp.like h1 h2 h3) hL) (fun _ h1 h2 h3 nt hM => drwX (hp.like h1 h2 h3) hL nt hM) hsq cl2_ok hfn hc hst hhd rfl hB hrun hloop hfin⟩
end Go.Proofs.YtjmnolhkkpaodaaGreatDoor
namespace Go.Proofs.YtjmnolhkkpaodaaGreatDoor
open Go Go.Sx Go.Ty
set_option maxRecDepth 100000
theorem o55 : OkS 55 s55 := ⟨fun _ hp => sp55 hp.T⟩
theorem o15 : OkS 15 s15 := okT (L := []) trivial (by kernel_rfl)
theorem o24 : OkS 24 s24 := okT (L := []) trivial (by kernel_rfl)
theorem o87 : OkS 87 s87 := okT (L := []) trivial (by kernel_rfl)
theorem o54 : OkS 54 s54 := okT (L := [(87, s87)]) ⟨o87, trivial⟩ (by kernel_rfl)
theorem o25 : OkS 25 s25 := okT (L := [(54, s54)]) ⟨o54, trivial⟩ (by kernel_rfl)
theorem o27 : OkS 27 s27 := okT (L := []) trivial (by kernel_rfl)
def u31 : List Tau := [[(1, 1, 0), (3, 6, 1), (4, 4, 1)]]
theorem o31a : OkS 31 s31a := okI (L := [(55, s55)]) (J := j31 0 3 3) (m := 4) (up := true) (τ0 := t31) (τs := u31) ⟨o55, trivial⟩ (by kernel_rfl)
theorem o31b : OkS 31 s31b := okI (L := [(55, s55)]) (J := j31 0 144 144) (m := 4) (up := true) (τ0 := t31) (τs := u31) ⟨o55, trivial⟩ (by kernel_rfl)
theorem o31c : OkS 31 s31c := okI (L := [(55, s55)]) (J := j31 1 0 0) (m := 4) (up := true) (τ0 := t31) (τs := u31) ⟨o55, trivial⟩ (by kernel_rfl)
theorem o28a : OkS 28 s28a := ok0 (L := [(31, s31a), (31, s31b), (31, s31c)]) ⟨o31a, o31b, o31c, trivial⟩ (by kernel_rfl)
theorem o28b : OkS 28 s28b := ok0 (L := [(31, s31a), (31, s31b), (31, s31c)]) ⟨o31a, o31b, o31c, trivial⟩ (by kernel_rfl)
theorem o30 : OkS 30 s30 := okT (L := []) trivial (by kernel_rfl)
theorem o29 : OkS 29 s29 := okT (L := [(27, s27), (30, s30)]) ⟨o27, o30, trivial⟩ (by kernel_rfl)
theorem o16 : OkS 16 s16 := okT (L := [(24, s24), (25, s25), (27, s27), (28, s28a), (28, s28b), (29, s29), (30, s30), (31, s31a), (31, s31b), (31, s31c)]) ⟨o24, o25, o27, o28a, o28b, o29, o30, o31a, o31b, o31c, trivial⟩ (by kernel_rfl)
theorem o88 : OkS 88 s88 := ⟨fun _ hp => sp88 hp.T⟩
theorem o57 : OkS 57 s57 := okT (L := [(55, s55), (88, s88)]) ⟨o55, o88, trivial⟩ (by kernel_rfl)
theorem o114 : OkS 114 s114 := okT (L := []) trivial (by kernel_rfl)
theorem o89 : OkS 89 s89 := okT (L := [(114, s114)]) ⟨o114, trivial⟩ (by kernel_rfl)
theorem o139 : OkS 139 s139 := okT (L := []) trivial (by kernel_rfl)
def s140a : Sp := { s140 with ps := [.one (.int .i64 0 0), .one (.int .i64 (0) (7)), .one (.int .i64 (0) (3)), .one (.int .i64 (0) (1))] }
theorem o140a : OkS 140 s140a := okT (L := []) trivial (by kernel_rfl)
def s140b : Sp := { s140 with ps := [.one (.int .i64 1 1), .one (.int .i64 (0) (7)), .one (.int .i64 (0) (3)), .one (.int .i64 (0) (1))] }
theorem o140b : OkS 140 s140b := okT (L := []) trivial (by kernel_rfl)
def s140c : Sp := { s140 with ps := [.one (.int .i64 2 2), .one (.int .i64 (0) (7)), .one (.int .i64 (0) (3)), .one (.int .i64 (0) (1))] }
theorem o140c : OkS 140 s140c := okT (L := []) trivial (by kernel_rfl)
def s140d : Sp := { s140 with ps := [.one (.int .i64 3 3), .one (.int .i64 (0) (7)), .one (.int .i64 (0) (3)), .one (.int .i64 (0) (1))] }
theorem o140d : OkS 140 s140d := okT (L := []) trivial (by kernel_rfl)
def s140e : Sp := { s140 with ps := [.one (.int .i64 4 7), .one (.int .i64 (0) (7)), .one (.int .i64 (0) (3)), .one (.int .i64 (0) (1))] }
theorem o140e : OkS 140 s140e := okT (L := []) trivial (by kernel_rfl)
theorem o140 : OkS 140 s140 := by
 refine ⟨fun p hp => ⟨((o140a.h p hp)).fn, ?_⟩⟩
 intro S w M vs hM hW hv hpm
 match vs, hv with
 | v :: r, ⟨⟨y, hy, h1, h2⟩, hr⟩ =>
  have key : ∀ a b : Int, a ≤ y → y ≤ b → ∀ s : Sp, s = { s140 with ps := [.one (.int .i64 a b), .one (.int .i64 (0) (7)), .one (.int .i64 (0) (3)), .one (.int .i64 (0) (1))] } → SpOk Tryz.prog p 140 s → Calls Tryz.prog 140 (v :: r).toArray w fun en w' => ∃ u S', en = .returned u ∧ SpOut p s140 S w M (v :: r) S' w' u := by
   rintro a b ha hb s rfl hs
   refine (hs.ok S w M (v :: r) hM hW ⟨⟨y, hy, ha, hb⟩, hr⟩ (fun i c h => by cases h)).mono ?_
   rintro en w' ⟨u, S', rfl, ho⟩
   exact ⟨u, S', rfl, ⟨ho.ext, ho.wt, ho.os, ho.tape, ho.output, ho.size, ho.newS, ho.same, ho.val, fun i c h => by cases h⟩⟩
  rcases (by omega : y = 0 ∨ y = 1 ∨ y = 2 ∨ y = 3 ∨ 4 ≤ y) with h | h | h | h | h
  · exact key 0 0 (by omega) (by omega) s140a rfl (o140a.h p hp)
  · exact key 1 1 (by omega) (by omega) s140b rfl (o140b.h p hp)
  · exact key 2 2 (by omega) (by omega) s140c rfl (o140c.h p hp)
  · exact key 3 3 (by omega) (by omega) s140d rfl (o140d.h p hp)
  · exact key 4 7 (by omega) (by omega) s140e rfl (o140e.h p hp)
theorem o141 : OkS 141 s141 := okT (L := []) trivial (by kernel_rfl)
theorem o113 : OkS 113 s113 := okT (L := [(114, s114), (139, s139), (140, s140), (141, s141)]) ⟨o114, o139, o140, o141, trivial⟩ (by kernel_rfl)
end Go.Proofs.YtjmnolhkkpaodaaGreatDoor
namespace Go.Proofs.YtjmnolhkkpaodaaGreatDoor
open Go Go.Sx Go.Ty
set_option maxRecDepth 100000
theorem o117 : OkS 117 s117 := okT (L := []) trivial (by kernel_rfl)
theorem o161 : OkS 161 s161 := okT (L := []) trivial (by kernel_rfl)
theorem o142 : OkS 142 s142 := okT (L := [(161, s161)]) ⟨o161, trivial⟩ (by kernel_rfl)
theorem o145 : OkS 145 s145 := okT (L := []) trivial (by kernel_rfl)
theorem o149 : OkS 149 s149 := okT (L := []) trivial (by kernel_rfl)
theorem o162 : OkS 162 s162 := okT (L := []) trivial (by kernel_rfl)
theorem o171 : OkS 171 s171 := okT (L := []) trivial (by kernel_rfl)
theorem o150 : OkS 150 s150 := okT (L := [(162, s162), (171, s171)]) ⟨o162, o171, trivial⟩ (by kernel_rfl)
theorem o163 : OkS 163 s163 := okT (L := [(161, s161)]) ⟨o161, trivial⟩ (by kernel_rfl)
theorem o164 : OkS 164 s164 := okT (L := [(145, s145), (171, s171)]) ⟨o145, o171, trivial⟩ (by kernel_rfl)
theorem o200 : OkS 200 s200 := okT (L := []) trivial (by kernel_rfl)
theorem o201 : OkS 201 s201 := okT (L := []) trivial (by kernel_rfl)
theorem o193 : OkS 193 s193 := okT (L := [(200, s200), (201, s201)]) ⟨o200, o201, trivial⟩ (by kernel_rfl)
theorem o199 : OkS 199 s199 := okT (L := []) trivial (by kernel_rfl)
theorem o195 : OkS 195 s195 := okT (L := [(199, s199)]) ⟨o199, trivial⟩ (by kernel_rfl)
theorem o196 : OkS 196 s196 := okT (L := [(114, s114)]) ⟨o114, trivial⟩ (by kernel_rfl)
end Go.Proofs.YtjmnolhkkpaodaaGreatDoor
namespace Go.Proofs.YtjmnolhkkpaodaaGreatDoor
open Go Go.Sx Go.Ty
set_option maxRecDepth 100000
theorem o197 : OkS 197 s197 := okT (L := []) trivial (by kernel_rfl)
theorem o188 : OkS 188 s188 := okT (L := [(193, s193), (195, s195), (196, s196), (197, s197)]) ⟨o193, o195, o196, o197, trivial⟩ (by kernel_rfl)
theorem o194 : OkS 194 s194 := okT (L := [(200, s200), (201, s201)]) ⟨o200, o201, trivial⟩ (by kernel_rfl)
theorem o189 : OkS 189 s189 := okT (L := [(194, s194), (195, s195), (196, s196), (197, s197)]) ⟨o194, o195, o196, o197, trivial⟩ (by kernel_rfl)
theorem o165 : OkS 165 s165 := okT (L := [(188, s188), (189, s189)]) ⟨o188, o189, trivial⟩ (by kernel_rfl)
theorem o166 : OkS 166 s166 := okT (L := [(161, s161)]) ⟨o161, trivial⟩ (by kernel_rfl)
theorem o190 : OkS 190 s190 := okT (L := []) trivial (by kernel_rfl)
theorem o168 : OkS 168 s168 := okT (L := [(190, s190)]) ⟨o190, trivial⟩ (by kernel_rfl)
theorem o167 : OkS 167 s167 := okT (L := [(114, s114), (163, s163), (168, s168)]) ⟨o114, o163, o168, trivial⟩ (by kernel_rfl)
theorem o169 : OkS 169 s169 := okT (L := [(161, s161)]) ⟨o161, trivial⟩ (by kernel_rfl)
theorem o198 : OkS 198 s198 := okT (L := []) trivial (by kernel_rfl)
theorem o191 : OkS 191 s191 := okT (L := [(114, s114), (198, s198)]) ⟨o114, o198, trivial⟩ (by kernel_rfl)
theorem o170 : OkS 170 s170 := okT (L := [(171, s171), (191, s191)]) ⟨o171, o191, trivial⟩ (by kernel_rfl)
theorem o143 : OkS 143 s143 := okT (L := [(114, s114), (142, s142), (145, s145), (149, s149), (150, s150), (161, s161), (162, s162), (163, s163), (164, s164), (165, s165), (166, s166), (167, s167), (168, s168), (169, s169), (170, s170), (171, s171)]) ⟨o114, o142, o145, o149, o150, o161, o162, o163, o164, o165, o166, o167, o168, o169, o170, o171, trivial⟩ (by kernel_rfl)
theorem o115 : OkS 115 s115 := okT (L := [(113, s113), (117, s117), (142, s142), (143, s143)]) ⟨o113, o117, o142, o143, trivial⟩ (by kernel_rfl)
theorem o90 : OkS 90 s90 := okT (L := [(115, s115)]) ⟨o115, trivial⟩ (by kernel_rfl)
end Go.Proofs.YtjmnolhkkpaodaaGreatDoor
namespace Go.Proofs.YtjmnolhkkpaodaaGreatDoor
open Go Go.Sx Go.Ty
set_option maxRecDepth 100000
theorem o58 : OkS 58 s58 := okT (L := [(89, s89), (90, s90)]) ⟨o89, o90, trivial⟩ (by kernel_rfl)
theorem o59 : OkS 59 s59 := okT (L := []) trivial (by kernel_rfl)
theorem o32 : OkS 32 s32 := okT (L := [(31, s31a), (31, s31b), (31, s31c), (57, s57), (58, s58), (59, s59)]) ⟨o31a, o31b, o31c, o57, o58, o59, trivial⟩ (by kernel_rfl)
theorem o60 : OkS 60 s60 := okT (L := []) trivial (by kernel_rfl)
theorem o61 : OkS 61 s61 := okT (L := []) trivial (by kernel_rfl)
theorem o33 : OkS 33 s33 := okE (L := [(60, s60), (61, s61)]) ⟨o60, o61, trivial⟩ (by kernel_rfl)
theorem o35a : OkS 35 s35a := okT (L := []) trivial (by kernel_rfl)
theorem o35b : OkS 35 s35b := okT (L := []) trivial (by kernel_rfl)
theorem o62 : OkS 62 s62 := okT (L := []) trivial (by kernel_rfl)
theorem o64 : OkS 64 s64 := okT (L := [(35, s35a), (35, s35b)]) ⟨o35a, o35b, trivial⟩ (by kernel_rfl)
theorem o71 : OkS 71 s71 := okT (L := []) trivial (by kernel_rfl)
theorem o94 : OkS 94 s94 := ⟨fun p _ => sp94 p⟩
theorem o95 : OkS 95 s95 := okT (L := []) trivial (by kernel_rfl)
theorem o96 : OkS 96 s96 := okT (L := []) trivial (by kernel_rfl)
theorem o129 : OkS 129 s129 := ⟨fun _ hp => sp129 hp.T⟩
theorem o97 : OkS 97 s97 := okT (L := [(129, s129)]) ⟨o129, trivial⟩ (by kernel_rfl)
theorem o132 : OkS 132 s132 := okT (L := []) trivial (by kernel_rfl)
theorem o186 : OkS 186 s186 := okT (L := []) trivial (by kernel_rfl)
theorem o187 : OkS 187 s187 := okT (L := []) trivial (by kernel_rfl)
end Go.Proofs.YtjmnolhkkpaodaaGreatDoor
namespace Go.Proofs.YtjmnolhkkpaodaaGreatDoor
open Go Go.Sx Go.Ty
set_option maxRecDepth 100000
theorem o159 : OkS 159 s159 := ok0 (L := [(186, s186), (187, s187)]) ⟨o186, o187, trivial⟩ (by kernel_rfl)
theorem o160 : OkS 160 s160 := okT (L := []) trivial (by kernel_rfl)
theorem o158 : OkS 158 s158 := okT (L := [(159, s159), (160, s160), (186, s186)]) ⟨o159, o160, o186, trivial⟩ (by kernel_rfl)
theorem o126 : OkS 126 s126 := okT (L := [(132, s132), (158, s158)]) ⟨o132, o158, trivial⟩ (by kernel_rfl)
theorem o130 : OkS 130 s130 := okT (L := []) trivial (by kernel_rfl)
theorem o131 : OkS 131 s131 := okT (L := []) trivial (by kernel_rfl)
theorem o98 : OkS 98 s98 := okT (L := [(126, s126), (130, s130), (131, s131)]) ⟨o126, o130, o131, trivial⟩ (by kernel_rfl)
theorem o99 : OkS 99 s99 := okT (L := [(126, s126), (130, s130), (131, s131), (132, s132)]) ⟨o126, o130, o131, o132, trivial⟩ (by kernel_rfl)
theorem o100 : OkS 100 s100 := okT (L := []) trivial (by kernel_rfl)
theorem o65 : OkS 65 s65 := okT (L := [(35, s35a), (35, s35b), (71, s71), (94, s94), (95, s95), (96, s96), (97, s97), (98, s98), (99, s99), (100, s100)]) ⟨o35a, o35b, o71, o94, o95, o96, o97, o98, o99, o100, trivial⟩ (by kernel_rfl)
theorem o78 : OkS 78 s78 := okT (L := [(114, s114)]) ⟨o114, trivial⟩ (by kernel_rfl)
theorem o67 : OkS 67 s67 := okT (L := []) trivial (by kernel_rfl)
theorem o133 : OkS 133 s133 := okT (L := []) trivial (by kernel_rfl)
theorem o134 : OkS 134 s134 := okT (L := []) trivial (by kernel_rfl)
theorem o101 : OkS 101 s101 := ok0 (L := [(67, s67), (71, s71), (114, s114), (133, s133), (134, s134)]) ⟨o67, o71, o114, o133, o134, trivial⟩ (by kernel_rfl)
theorem o102 : OkS 102 s102 := okT (L := []) trivial (by kernel_rfl)
end Go.Proofs.YtjmnolhkkpaodaaGreatDoor
namespace Go.Proofs.YtjmnolhkkpaodaaGreatDoor
open Go Go.Sx Go.Ty
set_option maxRecDepth 100000
theorem o103 : OkS 103 s103 := okT (L := []) trivial (by kernel_rfl)
theorem o104 : OkS 104 s104 := okT (L := [(114, s114)]) ⟨o114, trivial⟩ (by kernel_rfl)
theorem o135 : OkS 135 s135 := okT (L := []) trivial (by kernel_rfl)
theorem o105 : OkS 105 s105 := okT (L := [(90, s90), (135, s135)]) ⟨o90, o135, trivial⟩ (by kernel_rfl)
theorem o72 : OkS 72 s72 := okT (L := [(113, s113), (114, s114)]) ⟨o113, o114, trivial⟩ (by kernel_rfl)
theorem o106 : OkS 106 s106 := okT (L := [(71, s71), (72, s72)]) ⟨o71, o72, trivial⟩ (by kernel_rfl)
theorem o107 : OkS 107 s107 := okT (L := []) trivial (by kernel_rfl)
theorem o144 : OkS 144 s144 := okT (L := []) trivial (by kernel_rfl)
theorem o146 : OkS 146 s146 := okT (L := [(149, s149), (164, s164), (168, s168)]) ⟨o149, o164, o168, trivial⟩ (by kernel_rfl)
theorem o172 : OkS 172 s172 := okT (L := []) trivial (by kernel_rfl)
theorem o173 : OkS 173 s173 := okT (L := [(172, s172)]) ⟨o172, trivial⟩ (by kernel_rfl)
theorem o192 : OkS 192 s192 := okT (L := [(114, s114)]) ⟨o114, trivial⟩ (by kernel_rfl)
theorem o174 : OkS 174 s174 := okT (L := [(192, s192)]) ⟨o192, trivial⟩ (by kernel_rfl)
theorem o147 : OkS 147 s147 := okT (L := [(145, s145), (150, s150), (162, s162), (164, s164), (172, s172), (173, s173), (174, s174)]) ⟨o145, o150, o162, o164, o172, o173, o174, trivial⟩ (by kernel_rfl)
theorem o175 : OkS 175 s175 := okT (L := [(114, s114), (193, s193), (194, s194), (195, s195), (196, s196), (197, s197)]) ⟨o114, o193, o194, o195, o196, o197, trivial⟩ (by kernel_rfl)
theorem o176 : OkS 176 s176 := okT (L := [(114, s114)]) ⟨o114, trivial⟩ (by kernel_rfl)
end Go.Proofs.YtjmnolhkkpaodaaGreatDoor
namespace Go.Proofs.YtjmnolhkkpaodaaGreatDoor
open Go Go.Sx Go.Ty
set_option maxRecDepth 100000
theorem o177 : OkS 177 s177 := okT (L := [(114, s114)]) ⟨o114, trivial⟩ (by kernel_rfl)
theorem o178 : OkS 178 s178 := okT (L := [(114, s114)]) ⟨o114, trivial⟩ (by kernel_rfl)
theorem o179 : OkS 179 s179 := okT (L := [(193, s193), (195, s195), (196, s196), (197, s197)]) ⟨o193, o195, o196, o197, trivial⟩ (by kernel_rfl)
theorem o180 : OkS 180 s180 := okT (L := [(198, s198)]) ⟨o198, trivial⟩ (by kernel_rfl)
theorem o181 : OkS 181 s181 := okT (L := [(171, s171), (194, s194), (197, s197), (199, s199)]) ⟨o171, o194, o197, o199, trivial⟩ (by kernel_rfl)
theorem o182 : OkS 182 s182 := okT (L := []) trivial (by kernel_rfl)
theorem o183 : OkS 183 s183 := okT (L := [(198, s198)]) ⟨o198, trivial⟩ (by kernel_rfl)
theorem o148 : OkS 148 s148 := okT (L := [(145, s145), (150, s150), (162, s162), (165, s165), (172, s172), (173, s173), (175, s175), (176, s176), (177, s177), (178, s178), (179, s179), (180, s180), (181, s181), (182, s182), (183, s183)]) ⟨o145, o150, o162, o165, o172, o173, o175, o176, o177, o178, o179, o180, o181, o182, o183, trivial⟩ (by kernel_rfl)
theorem o184 : OkS 184 s184 := okT (L := [(200, s200)]) ⟨o200, trivial⟩ (by kernel_rfl)
theorem o151 : OkS 151 s151 := okT (L := [(184, s184)]) ⟨o184, trivial⟩ (by kernel_rfl)
theorem o152 : OkS 152 s152 := okT (L := []) trivial (by kernel_rfl)
theorem o116 : OkS 116 s116 := okT (L := [(113, s113), (117, s117), (144, s144), (145, s145), (146, s146), (147, s147), (148, s148), (149, s149), (150, s150), (151, s151), (152, s152)]) ⟨o113, o117, o144, o145, o146, o147, o148, o149, o150, o151, o152, trivial⟩ (by kernel_rfl)
theorem o108 : OkS 108 s108 := okT (L := [(103, s103), (104, s104), (105, s105), (115, s115), (116, s116)]) ⟨o103, o104, o105, o115, o116, trivial⟩ (by kernel_rfl)
theorem o66 : OkS 66 s66 := okT (L := [(35, s35a), (35, s35b), (58, s58), (78, s78), (89, s89), (90, s90), (101, s101), (102, s102), (103, s103), (104, s104), (105, s105), (106, s106), (107, s107), (108, s108)]) ⟨o35a, o35b, o58, o78, o89, o90, o101, o102, o103, o104, o105, o106, o107, o108, trivial⟩ (by kernel_rfl)
theorem o112 : OkS 112 s112 := okT (L := [(31, s31a), (31, s31b), (31, s31c)]) ⟨o31a, o31b, o31c, trivial⟩ (by kernel_rfl)
theorem o70 : OkS 70 s70 := okT (L := [(31, s31a), (31, s31b), (31, s31c), (112, s112)]) ⟨o31a, o31b, o31c, o112, trivial⟩ (by kernel_rfl)
end Go.Proofs.YtjmnolhkkpaodaaGreatDoor
namespace Go.Proofs.YtjmnolhkkpaodaaGreatDoor
open Go Go.Sx Go.Ty
set_option maxRecDepth 100000
theorem o136 : OkS 136 s136 := okT (L := []) trivial (by kernel_rfl)
theorem o137 : OkS 137 s137 := okT (L := [(59, s59)]) ⟨o59, trivial⟩ (by kernel_rfl)
theorem o138 : OkS 138 s138 := okT (L := [(159, s159), (160, s160)]) ⟨o159, o160, trivial⟩ (by kernel_rfl)
theorem o109 : OkS 109 s109 := okT (L := [(136, s136), (137, s137), (138, s138)]) ⟨o136, o137, o138, trivial⟩ (by kernel_rfl)
theorem o110 : OkS 110 s110 := okT (L := []) trivial (by kernel_rfl)
theorem o68 : OkS 68 s68 := okT (L := [(70, s70), (94, s94), (95, s95), (109, s109), (110, s110)]) ⟨o70, o94, o95, o109, o110, trivial⟩ (by kernel_rfl)
theorem o93 : OkS 93 s93 := okT (L := []) trivial (by kernel_rfl)
theorem o69 : OkS 69 s69 := okT (L := [(93, s93)]) ⟨o93, trivial⟩ (by kernel_rfl)
theorem o91 : OkS 91 s91 := okT (L := [(126, s126)]) ⟨o126, trivial⟩ (by kernel_rfl)
theorem o63 : OkS 63 s63 := ⟨fun _ hp => sp63 o91.h hp.T⟩
theorem o34 : OkS 34 s34 := ok0 (L := [(35, s35a), (35, s35b), (62, s62), (63, s63), (64, s64), (65, s65), (66, s66), (67, s67), (68, s68), (69, s69), (70, s70)]) ⟨o35a, o35b, o62, o63, o64, o65, o66, o67, o68, o69, o70, trivial⟩ (by kernel_rfl)
theorem o36a : OkS 36 s36a := okT (L := []) trivial (by kernel_rfl)
theorem o36b : OkS 36 s36b := okT (L := []) trivial (by kernel_rfl)
theorem o36c : OkS 36 s36c := okT (L := []) trivial (by kernel_rfl)
theorem o37 : OkS 37 s37 := okT (L := [(71, s71), (72, s72)]) ⟨o71, o72, trivial⟩ (by kernel_rfl)
theorem o39 : OkS 39 s39 := okT (L := []) trivial (by kernel_rfl)
theorem o73 : OkS 73 s73 := okT (L := []) trivial (by kernel_rfl)
theorem o74 : OkS 74 s74 := okT (L := []) trivial (by kernel_rfl)
theorem o75 : OkS 75 s75 := okT (L := [(78, s78), (106, s106), (107, s107), (115, s115), (116, s116)]) ⟨o78, o106, o107, o115, o116, trivial⟩ (by kernel_rfl)
theorem o76 : OkS 76 s76 := okT (L := [(117, s117)]) ⟨o117, trivial⟩ (by kernel_rfl)
end Go.Proofs.YtjmnolhkkpaodaaGreatDoor
namespace Go.Proofs.YtjmnolhkkpaodaaGreatDoor
open Go Go.Sx Go.Ty
set_option maxRecDepth 100000
theorem o77 : OkS 77 s77 := okT (L := [(37, s37)]) ⟨o37, trivial⟩ (by kernel_rfl)
theorem o38 : OkS 38 s38 := okT (L := [(35, s35a), (35, s35b), (39, s39), (73, s73), (74, s74), (75, s75), (76, s76), (77, s77), (78, s78)]) ⟨o35a, o35b, o39, o73, o74, o75, o76, o77, o78, trivial⟩ (by kernel_rfl)
end Go.Proofs.YtjmnolhkkpaodaaGreatDoor
