/- Format, the program's and the document's: what they hand back, for all bytes. -/
import Derived.Test.YtdglgiaegjkinaaDoorFma
import Derived.Test.YtdglgiaegjkinaaDoorFmb
namespace Go.Proofs.YtdglgiaegjkinaaDoor
open Go Go.Sx Go.RowKit
set_option maxRecDepth 100000
theorem f7_all (v : Nat) (h : v < 256) : FmAll Fmt7 v := by
  rcases Nat.lt_or_ge v 128 with h1 | h1
  · rcases Nat.lt_or_ge v 64 with h2 | h2
    · exact f7_0_64 v (Nat.zero_le _) h2
    · exact f7_64_128 v h2 h1
  · rcases Nat.lt_or_ge v 192 with h2 | h2
    · exact f7_128_192 v h1 h2
    · exact f7_192_256 v h2 h
theorem f8_all (v : Nat) (h : v < 256) : FmAll Fmt8 v := by
  rcases Nat.lt_or_ge v 128 with h1 | h1
  · rcases Nat.lt_or_ge v 64 with h2 | h2
    · exact f8_0_64 v (Nat.zero_le _) h2
    · exact f8_64_128 v h2 h1
  · rcases Nat.lt_or_ge v 192 with h2 | h2
    · exact f8_128_192 v h1 h2
    · exact f8_192_256 v h2 h
theorem g18_ok (W : World) : GOk W Tryd.prog (G18 W) :=
  gok_cons (specNb_ok (gok_nil W) ⟨Tryd.f35, Tryd.func35, by kernel_rfl, by kernel_rfl⟩) (gok_cons (specNb_ok (gok_nil W) ⟨Tryd.f36, Tryd.func36, by kernel_rfl, by kernel_rfl⟩) (gok_cons (hex_ok W) (gok_nil W)) (hn := fun _ => specNb_nb (gok_nil W))) (hn := fun _ => specNb_nb (gok_nil W))
theorem g7_ok (W : World) {v : Nat} (hv : v < 256) {ko : Option Bool} (hs : SameV v ko) : GOk W Tryd.prog (G7 W v ko) :=
  gok_cons (dec_spec ⟨Tryd.f16, Tryd.func16, by kernel_rfl, by kernel_rfl⟩ (fun v h => dec16 h) W v hv ko hs) (gok_cons (simple_spec W) (gok_cons (specNb_ok (g18_ok W) ⟨Tryd.f18, Tryd.func18, by kernel_rfl, by kernel_rfl⟩) (gok_cons (join_ok W) (gok_nil W)) (hn := fun _ => specNb_nb (g18_ok W))))
theorem g8_ok (W : World) {v : Nat} (hv : v < 256) {ko : Option Bool} (hs : SameV v ko) : GOk W Tryd.prog (G8 W v ko) :=
  gok_cons (dec_spec ⟨Tryd.f15, Tryd.func15, by kernel_rfl, by kernel_rfl⟩ (fun v h => dec15 h) W v hv ko hs) (gok_cons (at_ok W) (gok_cons (h9_ok W) (gok_nil W)))
/-- What Format says: the text, the length, the error. -/
def fmtR (k : Bool) (n : Nat) (x : Nat → Int) : ByteArray × Int × Int :=
  match n with
  | 0 => (strB [], 0, 1)
  | _ => match Nat.blt n (tabK k (x 0).toNat).1 with
    | true => (strB [], 0, 1)
    | false => (txt (tabK k (x 0).toNat).1 (tabK k (x 0).toNat).2 (x 1) (x 2), ((tabK k (x 0).toNat).1 : Int), 0)
def resV (r : ByteArray × Int × Int) : TV := .tup [(false, [.str r.1]), (false, [.int .i64 (.lit r.2.1)]), (false, [.int .i64 (.lit r.2.2)])]
theorem lens (k : Bool) (v : Nat) (hv : v < 256) : (tabK k v).1 = 1 ∨ (tabK k v).1 = 2 ∨ (tabK k v).1 = 3 := by
  have h : (List.range 256).all (fun v => (Nat.beq (tabK true v).1 1 || (Nat.beq (tabK true v).1 2 || Nat.beq (tabK true v).1 3)) && (Nat.beq (tabK false v).1 1 || (Nat.beq (tabK false v).1 2 || Nat.beq (tabK false v).1 3))) = true := by kernel_rfl
  have h1 := List.all_eq_true.1 h v (List.mem_range.2 hv)
  rw [Bool.and_eq_true] at h1
  simp only [Bool.or_eq_true, Nat.beq_eq] at h1
  cases k
  · exact h1.2
  · exact h1.1
theorem row_add {W : World} {b o : Nat} {n cap : Nat} (hr : RowOk W .u8 (some ⟨b, o, none⟩) n cap) (j : Nat) (hj : j < n) : okB W ⟨b, o + j, none⟩ = true := by
  have h := hr.at_ j hj
  have e : (((some ⟨b, o, none⟩ : Option Addr).getD default).add j) = ⟨b, o + j, none⟩ := by
    show Addr.add ⟨b, o, none⟩ j = _
    unfold Addr.add
    split
    · rename_i h0; subst h0; rfl
    · rfl
  rw [e] at h
  have h2 : 0 ≤ rdInt W ⟨b, o + j, none⟩ := h.2.1
  have h3 : rdInt W ⟨b, o + j, none⟩ ≤ 255 := h.2.2
  unfold okB
  rw [h.1, decide_eq_true h2, decide_eq_true h3]
  rfl
theorem addr_add (b o j : Nat) : (((some ⟨b, o, none⟩ : Option Addr).getD default).add j) = ⟨b, o + j, none⟩ := by
  show Addr.add ⟨b, o, none⟩ j = _
  unfold Addr.add
  split
  · rename_i h0; subst h0; rfl
  · rfl
theorem row_spot {W : World} {a : Option Addr} {n cap : Nat} (hr : RowOk W .u8 a n cap) (hn : 0 < n) : ∃ b o, a = some ⟨b, o, none⟩ := by
  cases a with
  | none => have := hr.nil rfl; omega
  | some q =>
    obtain ⟨b, o, s⟩ := q
    have h := (hr.at_ 0 hn).1
    have e : (((some ⟨b, o, s⟩ : Option Addr).getD default).add 0) = ⟨b, o, s⟩ := rfl
    rw [e] at h
    cases s with
    | none => exact ⟨b, o, rfl⟩
    | some k =>
      unfold isInt World.cell? at h
      simp only [Option.isSome_some, if_true] at h
      split at h
      · rename_i k' n' hc
        split at hc <;> cases hc
      · cases h
theorem qq_far {b o cap : Nat} (h : 2 ≤ cap) : qq b o cap = some ⟨b, o + 1, none⟩ := by
  unfold qq cutA
  rw [if_neg (by omega), if_neg (by omega)]
  rfl
theorem q1_far {b o cap : Nat} (h : 2 ≤ cap) : q1 b o cap = ⟨b, o + 1, none⟩ := by
  unfold q1
  rw [qq_far h]
  rfl
theorem okB_int {W : World} {q : Addr} (h : okB W q = true) : isInt W .u8 q = true ∧ 0 ≤ rdInt W q ∧ rdInt W q ≤ 255 := by
  simp only [okB, Bool.and_eq_true, decide_eq_true_eq] at h
  exact ⟨h.1, h.2.1, h.2.2⟩
theorem vA_ok {W : World} {c : Int} {b o n v : Nat} {ko : Option Bool} (hn : 0 < n) (h0 : okB W ⟨b, o, none⟩ = true) (hv : rdInt W ⟨b, o, none⟩ = (v : Int)) (hk : ko = none ∨ ko = some (c == 2)) : vA W c b o n v ko = true := by
  have h1 : inRow (some ⟨b, o, none⟩) n 0 = true := by
    unfold inRow
    simp [hn]
  have h2 : kC ko c (decide (rdInt W ⟨b, o, none⟩ = (v : Int))) = true := by
    rw [decide_eq_true hv]
    rcases hk with rfl | rfl
    · rfl
    · simp [kC]
  unfold vA
  rw [h1, (okB_int h0).1, h2]
  rfl
theorem tl_true (p : List Nat) : tl p true = true := by
  unfold tl
  split <;> rfl
theorem txt_one (p : List Nat) (x y x' y' : Int) : txt 1 p x y = txt 1 p x' y' := rfl
theorem txt_two (p : List Nat) (x y y' : Int) : txt 2 p x y = txt 2 p x y' := rfl
theorem nil7 (W : World) (c : Int) (a : Option Addr) (cap : Nat) : gY (nbR Tryd.prog W [] 7 [.one (.int .i64 (.sym c)), .one (.sl a 0 cap)]) = some (eV, true) := by kernel_rfl
theorem nil8 (W : World) (c : Int) (a : Option Addr) (cap : Nat) : gY (nbR Tryd.prog W [] 8 [.one (.int .i64 (.sym c)), .one (.sl a 0 cap)]) = some (eV, true) := by kernel_rfl
/-- listing.Format. -/
theorem fmt7 (W : World) (c : Int) (a : Option Addr) (n cap : Nat) (hr : RowOk W .u8 a n cap) : Calls Tryd.prog 7 #[.int .i64 c, .slice a n cap] W fun en w' => en = .returned ((resV (fmtR (c == 2) n fun j => rdInt W ((a.getD default).add j))).den fun _ => 0) ∧ Below W.heap.size W w' := by
  rcases Nat.eq_zero_or_pos n with rfl | hn
  · obtain ⟨vc, s, m, hg, hv⟩ := gY_get (nil7 W c a cap)
    refine (nb_get (gok_nil W) hg hv (fun _ => 0) W (Old.refl W)).mono ?_
    rintro en w' ⟨f', rfl, _, hb⟩
    exact ⟨rfl, hb⟩
  · obtain ⟨b, o, rfl⟩ := row_spot hr hn
    have h0 := row_add hr 0 hn
    obtain ⟨_, hlo, hhi⟩ := okB_int h0
    rw [Nat.add_zero] at h0 hlo hhi
    obtain ⟨v, hv⟩ : ∃ v : Nat, rdInt W ⟨b, o, none⟩ = (v : Int) := ⟨(rdInt W ⟨b, o, none⟩).toNat, by omega⟩
    have hv256 : v < 256 := by omega
    obtain ⟨ko, hsame, hko, htab, hF⟩ := f7_all v hv256 (c == 2)
    have hA := vA_ok (n := n) hn h0 hv hko
    have h7 := hF W c b o n cap
    rw [hA, htab, decide_eq_false (show ¬ (n : Int) = 0 by omega)] at h7
    simp only [cond_false] at h7
    have hx : ∀ j, rdInt W (((some ⟨b, o, none⟩ : Option Addr).getD default).add j) = rdInt W ⟨b, o + j, none⟩ := fun j => by rw [addr_add]
    have hfm : fmtR (c == 2) n (fun j => rdInt W (((some ⟨b, o, none⟩ : Option Addr).getD default).add j)) = match Nat.blt n (tabK (c == 2) v).1 with
        | true => (strB [], 0, 1)
        | false => (txt (tabK (c == 2) v).1 (tabK (c == 2) v).2 (rdInt W ⟨b, o + 1, none⟩) (rdInt W ⟨b, o + 2, none⟩), ((tabK (c == 2) v).1 : Int), 0) := by
      unfold fmtR
      simp only [hx, Nat.add_zero, hv, Int.toNat_natCast]
      cases n with
      | zero => omega
      | succ n => rfl
    rw [hfm]
    cases hlt : Nat.blt n (tabK (c == 2) v).1 with
    | true =>
      have := lt_of_blt hlt
      rw [decide_eq_true (show (n : Int) < ((tabK (c == 2) v).1 : Int) by omega)] at h7
      simp only [cond_true] at h7
      obtain ⟨vc, s, m, hg, hvc⟩ := gY_get h7
      refine (nb_get (g7_ok W hv256 hsame) hg hvc (fun _ => 0) W (Old.refl W)).mono ?_
      rintro en w' ⟨f', rfl, _, hb⟩
      exact ⟨rfl, hb⟩
    | false =>
      have hge : (tabK (c == 2) v).1 ≤ n := by
        rcases Nat.lt_or_ge n (tabK (c == 2) v).1 with h | h
        · rw [show Nat.blt n (tabK (c == 2) v).1 = true by rw [Nat.blt_eq]; exact h] at hlt
          cases hlt
        · exact h
      rw [decide_eq_false (show ¬ (n : Int) < ((tabK (c == 2) v).1 : Int) by omega)] at h7
      simp only [cond_false] at h7
      have hle := hr.le
      have key : v7 W (tabK (c == 2) v).1 b o cap = true ∧ txt (tabK (c == 2) v).1 (tabK (c == 2) v).2 (rdInt W (q1 b o cap)) (rdInt W ((q1 b o cap).add 1)) = txt (tabK (c == 2) v).1 (tabK (c == 2) v).2 (rdInt W ⟨b, o + 1, none⟩) (rdInt W ⟨b, o + 2, none⟩) := by
        rcases lens (c == 2) v hv256 with h | h | h
        · rw [h]
          exact ⟨decide_eq_true (by omega), txt_one _ _ _ _ _⟩
        · have h2 : 2 ≤ cap := by omega
          rw [h, q1_far h2]
          refine ⟨?_, txt_two _ _ _ _⟩
          show (decide ((2 : Int) ≤ (cap : Int)) && (okA (qq b o cap) && okB W (q1 b o cap))) = true
          rw [decide_eq_true (by omega), qq_far h2, q1_far h2, row_add hr 1 (by omega)]
          rfl
        · have h2 : 2 ≤ cap := by omega
          rw [h, q1_far h2]
          refine ⟨?_, rfl⟩
          show (decide ((3 : Int) ≤ (cap : Int)) && (okA (qq b o cap) && (okB W (q1 b o cap) && okB W ((q1 b o cap).add 1)))) = true
          rw [decide_eq_true (by omega), qq_far h2, q1_far h2, row_add hr 1 (by omega), show Addr.add ⟨b, o + 1, none⟩ 1 = ⟨b, o + 2, none⟩ from rfl, row_add hr 2 (by omega)]
          rfl
      unfold okV at h7
      rw [key.1, key.2, tl_true] at h7
      obtain ⟨vc, s, m, hg, hvc⟩ := gY_get h7
      refine (nb_get (g7_ok W hv256 hsame) hg hvc (fun _ => 0) W (Old.refl W)).mono ?_
      rintro en w' ⟨f', rfl, _, hb⟩
      exact ⟨rfl, hb⟩
theorem atRow_eq (b o : Nat) (i : Nat) : atRow (some ⟨b, o, none⟩) (i : Int) 1 = ⟨b, o + i, none⟩ := by
  unfold atRow
  rw [Int.toNat_natCast, Nat.mul_one, addr_add]
theorem fA_ok {W : World} {b o n cap : Nat} (hr : RowOk W .u8 (some ⟨b, o, none⟩) n cap) (i : Nat) : fA W b o n (i : Int) = true := by
  unfold fA
  cases h : decide ((i : Int) < (n : Int)) with
  | true =>
    have := of_decide_eq_true h
    rw [cond_true, atRow_eq]
    exact (okB_int (row_add hr i (by omega))).1
  | false => rfl
theorem aT_lt {W : World} {b o n : Nat} {i : Nat} (h : i < n) : aT W b o n (i : Int) = rdInt W ⟨b, o + i, none⟩ := by
  unfold aT atV
  rw [decide_eq_true (by omega), cond_true, atRow_eq]
theorem aT_h1 {W : World} {b o n cap : Nat} (hr : RowOk W .u8 (some ⟨b, o, none⟩) n cap) (i : Nat) : h1 (aT W b o n (i : Int)) = true := by
  rcases Nat.lt_or_ge i n with h | h
  · rw [aT_lt h]
    obtain ⟨_, h2, h3⟩ := okB_int (row_add hr i h)
    unfold h1
    rw [decide_eq_true h2, decide_eq_true h3]
    rfl
  · unfold aT atV
    rw [decide_eq_false (by omega), cond_false]
    rfl
theorem tl8_ok {W : World} {b o n cap : Nat} (hr : RowOk W .u8 (some ⟨b, o, none⟩) n cap) (p : List Nat) : tl8 p (aT W b o n 1) (aT W b o n 2) = true := by
  have e1 := aT_h1 hr 1
  have e2 := aT_h1 hr 2
  unfold tl8
  split
  · rw [show h1 (aT W b o n 1) = true from e1, show h1 (aT W b o n 2) = true from e2]
    rfl
  · rfl
/-- The document's Format. -/
theorem fmt8 (W : World) (c : Int) (a : Option Addr) (n cap : Nat) (hr : RowOk W .u8 a n cap) : Calls Tryd.prog 8 #[.int .i64 c, .slice a n cap] W fun en w' => en = .returned ((resV (fmtR (c == 2) n fun j => rdInt W ((a.getD default).add j))).den fun _ => 0) ∧ Below W.heap.size W w' := by
  rcases Nat.eq_zero_or_pos n with rfl | hn
  · obtain ⟨vc, s, m, hg, hv⟩ := gY_get (nil8 W c a cap)
    refine (nb_get (gok_nil W) hg hv (fun _ => 0) W (Old.refl W)).mono ?_
    rintro en w' ⟨f', rfl, _, hb⟩
    exact ⟨rfl, hb⟩
  · obtain ⟨b, o, rfl⟩ := row_spot hr hn
    have h0 := row_add hr 0 hn
    obtain ⟨_, hlo, hhi⟩ := okB_int h0
    rw [Nat.add_zero] at h0 hlo hhi
    obtain ⟨v, hv⟩ : ∃ v : Nat, rdInt W ⟨b, o, none⟩ = (v : Int) := ⟨(rdInt W ⟨b, o, none⟩).toNat, by omega⟩
    have hv256 : v < 256 := by omega
    obtain ⟨ko, hsame, hko, htab, hF⟩ := f8_all v hv256 (c == 2)
    have hA := vA_ok (n := n) hn h0 hv hko
    have h8 := hF W c b o n cap
    rw [hA, htab, decide_eq_false (show ¬ (n : Int) = 0 by omega)] at h8
    simp only [cond_false] at h8
    have hx : ∀ j, rdInt W (((some ⟨b, o, none⟩ : Option Addr).getD default).add j) = rdInt W ⟨b, o + j, none⟩ := fun j => by rw [addr_add]
    have hfm : fmtR (c == 2) n (fun j => rdInt W (((some ⟨b, o, none⟩ : Option Addr).getD default).add j)) = match Nat.blt n (tabK (c == 2) v).1 with
        | true => (strB [], 0, 1)
        | false => (txt (tabK (c == 2) v).1 (tabK (c == 2) v).2 (rdInt W ⟨b, o + 1, none⟩) (rdInt W ⟨b, o + 2, none⟩), ((tabK (c == 2) v).1 : Int), 0) := by
      unfold fmtR
      simp only [hx, Nat.add_zero, hv, Int.toNat_natCast]
      cases n with
      | zero => omega
      | succ n => rfl
    rw [hfm]
    cases hlt : Nat.blt n (tabK (c == 2) v).1 with
    | true =>
      have := lt_of_blt hlt
      rw [decide_eq_true (show (n : Int) < ((tabK (c == 2) v).1 : Int) by omega)] at h8
      simp only [cond_true] at h8
      obtain ⟨vc, s, m, hg, hvc⟩ := gY_get h8
      refine (nb_get (g8_ok W hv256 hsame) hg hvc (fun _ => 0) W (Old.refl W)).mono ?_
      rintro en w' ⟨f', rfl, _, hb⟩
      exact ⟨rfl, hb⟩
    | false =>
      have hge : (tabK (c == 2) v).1 ≤ n := by
        rcases Nat.lt_or_ge n (tabK (c == 2) v).1 with h | h
        · rw [show Nat.blt n (tabK (c == 2) v).1 = true by rw [Nat.blt_eq]; exact h] at hlt
          cases hlt
        · exact h
      rw [decide_eq_false (show ¬ (n : Int) < ((tabK (c == 2) v).1 : Int) by omega)] at h8
      simp only [cond_false] at h8
      have key : txt (tabK (c == 2) v).1 (tabK (c == 2) v).2 (aT W b o n 1) (aT W b o n 2) = txt (tabK (c == 2) v).1 (tabK (c == 2) v).2 (rdInt W ⟨b, o + 1, none⟩) (rdInt W ⟨b, o + 2, none⟩) := by
        rcases lens (c == 2) v hv256 with h | h | h
        · rw [h]
          exact txt_one _ _ _ _ _
        · rw [h, show aT W b o n 1 = _ from aT_lt (i := 1) (by omega)]
          exact txt_two _ _ _ _
        · rw [h, show aT W b o n 1 = _ from aT_lt (i := 1) (by omega), show aT W b o n 2 = _ from aT_lt (i := 2) (by omega)]
      unfold okV at h8
      rw [key, tl8_ok hr, show fA W b o n 1 = true from fA_ok hr 1, show fA W b o n 2 = true from fA_ok hr 2] at h8
      obtain ⟨vc, s, m, hg, hvc⟩ := gY_get h8
      refine (nb_get (g8_ok W hv256 hsame) hg hvc (fun _ => 0) W (Old.refl W)).mono ?_
      rintro en w' ⟨f', rfl, _, hb⟩
      exact ⟨rfl, hb⟩
end Go.Proofs.YtdglgiaegjkinaaDoor
