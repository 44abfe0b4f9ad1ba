/- The contracts of the fractions: Valid, Parts, form. No condition. -/
import Derived.Test.YtfdllnbmjlhliaaGreatDoorLwRa
namespace Lw
open Go Go.RowKit Go.Proofs

variable {G : World → Prop}

theorem one_spec (hG : Steady G) : Spec Tryz.prog G 72 [] (W 1) :=
  Spec.of_run hG Tryz.func72 (ro := []) (m := 30) [.call (Of_spec hG (i := 1) (by omega) (by omega))] (by kernel_rfl)
theorem Full_words (n : Nat) : Full (words n) = true := by unfold Full; rw [val_words]; simp
theorem full_get {l : List Nat} (h : Full l = true) : ∃ n, l = words n := ⟨val l, by unfold Full at h; simpa using h⟩
theorem good_iff (s : Bool) (N M : Nat) (hN : 0 < N) (hM : 0 < M) : (Raw.mk s (words N) (words M)).good ↔ Nat.gcd N M = 1 := by
  unfold Raw.good
  simp only [val_words]
  exact ⟨fun h => h.2.2.2.2, fun h => ⟨words_some hN, words_some hM, trivial, trivial, h⟩⟩
theorem cmp_one (g : Nat) : (cmpZ (g : Int) 1 == 0) = decide (g = 1) := by
  unfold cmpZ
  by_cases h : g = 1
  · subst h; rfl
  · rw [decide_eq_false h]
    by_cases h2 : (g : Int) < 1
    · rw [if_pos h2]; rfl
    · rw [if_neg h2, if_pos (by omega)]; rfl
theorem len_ne {l : List Nat} (h : l ≠ []) : (Int.ofNat l.length == 0) = false := by
  rw [beq_eq_false_iff_ne]
  have := List.length_pos_iff.2 h
  simp only [Int.ofNat_eq_natCast]; omega
def KB : Nat := 268435456
theorem KB_eq : KB = 268435456 := rfl
theorem Gcd_wv (hG : Steady G) {s t : Bool} {m n : Nat} (hs : s = true → 0 < m) (ht : t = true → 0 < n) (hm : Sz m) (hn : Sz n) : Spec Tryz.prog G 104 [wv s m, wv t n] (wv false (Nat.gcd m n)) := by
  have h := Gcd_spec (G := G) hG (i := mkI s m) (j := mkI t n) (by unfold SzI; rw [mkI_abs]; exact hm) (by unfold SzI; rw [mkI_abs]; exact hn)
  rw [W_mk hs, W_mk ht, W_nat] at h
  have e : Int.gcd (mkI s m) (mkI t n) = Nat.gcd m n := by unfold Int.gcd; rw [mkI_abs, mkI_abs]
  rw [e] at h
  exact h
theorem Div_nat (hG : Steady G) {m n : Nat} (hn0 : 0 < n) (hm : Sz m) (hn : Sz n) : Spec Tryz.prog G 105 [wv false m, wv false n] (.tup [wv false (m / n), wv false (m % n), .lit .nilIface]) :=
  Div_even hG (s := false) (t := false) (by simp) (by simp) hn0 hm hn (.inl rfl)
theorem Cmp_one (hG : Steady G) {g : Nat} (h : Sz g) : Spec Tryz.prog G 68 [wv false g, W 1] (int (cmpZ (g : Int) 1)) := by
  have := Cmp_spec (G := G) hG (i := (g : Int)) (j := 1) h (by unfold SzI Sz; decide)
  rw [W_nat] at this
  exact this

/-! ### Valid -/
theorem FValid_spec (hG : Steady G) {r : Raw} {k : Nat} (hr : r.ok k) (hk : k ≤ KB) : Spec Tryz.prog G 85 [r.dat] (bool r.valid) := by
  have h30 : (2:Nat) ^ 30 = 1073741824 := by decide
  have h36 : (2:Nat) ^ 36 = 68719476736 := by decide
  obtain ⟨s, n, d⟩ := r
  obtain ⟨hn, hd, ln, ld, -⟩ := hr
  simp only at hn hd ln ld
  rw [KB_eq] at hk
  by_cases en : n = []
  · subst en
    by_cases ed : d = []
    · subst ed
      exact Spec.of_run hG Tryz.func85 (ro := [1]) (m := 40) [] (by kernel_rfl)
    · have hv : (Raw.mk s [] d).valid = false := by
        unfold Raw.valid
        rw [if_neg (fun h => ed h.2)]
        exact decide_eq_false fun h => h.1 rfl
      rw [hv]
      exact Spec.of_run hG Tryz.func85 (ro := [1]) (m := 40) [.eq 13 (eqB (len_ne ed))] (by kernel_rfl)
  · have hv0 : (Raw.mk s n d).valid = decide (Raw.mk s n d).good := by unfold Raw.valid; rw [if_neg (fun h => en h.1)]
    by_cases ed : d = []
    · subst ed
      have hv : (Raw.mk s n []).valid = false := by rw [hv0]; exact decide_eq_false fun h => h.2.1 rfl
      rw [hv]
      exact Spec.of_run hG Tryz.func85 (ro := [1]) (m := 40) [.eq 8 (eqB (len_ne en)), .eq 27 (eqB (len_ne en))] (by kernel_rfl)
    · have v1 := Valid_raw (G := G) hG hn (by omega)
      have v2 := Valid_raw (G := G) hG hd (by omega)
      cases f1 : Full n with
      | false =>
        rw [f1] at v1
        have hv : (Raw.mk s n d).valid = false := by
          rw [hv0]
          refine decide_eq_false fun h => ?_
          have h3 : n = words (val n) := h.2.2.1
          rw [h3, Full_words] at f1; cases f1
        rw [hv]
        exact Spec.of_run hG Tryz.func85 (ro := [1]) (m := 40) [.eq 8 (eqB (len_ne en)), .eq 27 (eqB (len_ne en)), .eq 32 (eqB (len_ne ed)), .call v1] (by kernel_rfl)
      | true =>
        rw [f1] at v1
        cases f2 : Full d with
        | false =>
          rw [f2] at v2
          have hv : (Raw.mk s n d).valid = false := by
            rw [hv0]
            refine decide_eq_false fun h => ?_
            have h3 : d = words (val d) := h.2.2.2.1
            rw [h3, Full_words] at f2; cases f2
          rw [hv]
          exact Spec.of_run hG Tryz.func85 (ro := [1]) (m := 40) [.eq 8 (eqB (len_ne en)), .eq 27 (eqB (len_ne en)), .eq 32 (eqB (len_ne ed)), .call v1, .call v2] (by kernel_rfl)
        | true =>
          rw [f2] at v2
          obtain ⟨N, rfl⟩ := full_get f1
          obtain ⟨M, rfl⟩ := full_get f2
          have hN : 0 < N := by rcases Nat.eq_zero_or_pos N with e | e; (· subst e; exact absurd rfl en); exact e
          have hM : 0 < M := by rcases Nat.eq_zero_or_pos M with e | e; (· subst e; exact absurd rfl ed); exact e
          have szg : Sz (Nat.gcd N M) := by unfold Sz; exact len_gcd (by omega) (by omega)
          have g1 := Gcd_wv (G := G) hG (s := false) (t := false) (m := N) (n := M) (by simp) (by simp) (by unfold Sz; omega) (by unfold Sz; omega)
          have hv : (Raw.mk s (words N) (words M)).valid = decide (Nat.gcd N M = 1) := by rw [hv0]; exact decide_eq_decide.2 (good_iff s N M hN hM)
          rw [hv]
          exact Spec.of_run hG Tryz.func85 (ro := [1]) (m := 40)
            [.eq 8 (eqB (len_ne en)), .eq 27 (eqB (len_ne en)), .eq 32 (eqB (len_ne ed)), .call v1, .call v2, .call g1, .call (one_spec hG), .call (Cmp_one hG szg), .eq 49 (eqB (cmp_one (Nat.gcd N M)))] (by kernel_rfl)

/-! ### Parts -/
theorem app_need (n : Nat) (h : n ≤ 2 ^ 36) (l : List D) (hl : l.length = n) : ([] : List D).length = 0 * 1 ∧ l.length = n * 1 ∧ 0 + n ≤ 2 ^ 62 ∧ (0 + n) * 4 ≤ 2 ^ 47 := by
  have h36 : (2:Nat) ^ 36 = 68719476736 := by decide
  have h62 : (2:Nat) ^ 62 = 4611686018427387904 := by decide
  have h47 : (2:Nat) ^ 47 = 140737488355328 := by decide
  exact ⟨rfl, by omega, by omega, by omega⟩
theorem app_row (l : List Nat) : D.row (0 + l.length) false ([] ++ l.map u32) = rowW l := by unfold rowW; rw [Nat.zero_add, List.nil_append]
theorem Raw.bad {r : Raw} (h : ¬ r.good) : r.valid = false ∨ r = ⟨false, [], []⟩ := by
  obtain ⟨s, n, d⟩ := r
  unfold Raw.valid
  split
  · rename_i hh
    simp only at hh
    obtain ⟨rfl, rfl⟩ := hh
    cases s with
    | true => exact .inl rfl
    | false => exact .inr rfl
  · exact .inl (decide_eq_false h)
theorem Raw.good_valid {r : Raw} (h : r.good) : r.valid = true := by
  unfold Raw.valid
  rw [if_neg (fun hh => h.1 hh.1)]
  exact decide_eq_true h
theorem Parts_spec (hG : Steady G) {r : Raw} {k : Nat} (hr : r.ok k) (hk : k ≤ KB) : Spec Tryz.prog G 66 [r.dat] (.tup [W r.q.num, W r.q.den]) := by
  have h36 : (2:Nat) ^ 36 = 68719476736 := by decide
  have hv := FValid_spec (G := G) hG hr hk
  by_cases hg : r.good
  · obtain ⟨e1, e2⟩ := Raw.q_parts hg
    have p1 := Raw.good_num hg
    have p2 := Raw.good_den hg
    rw [Raw.good_valid hg] at hv
    rw [e1, e2, W_mk (fun _ => p1), W_nat]
    obtain ⟨s, n, d⟩ := r
    obtain ⟨-, -, ln, ld, -⟩ := hr
    obtain ⟨g1, g2, g3, g4, -⟩ := hg
    simp only at ln ld g1 g2 g3 g4 p1 p2 ⊢
    rw [KB_eq] at hk
    have w1 : wv s (val n) = .agg [bool s, rowW n] := by unfold wv; rw [← g3]
    have w2 : wv (false && decide (0 < val d)) (val d) = .agg [bool false, rowW d] := by unfold wv; rw [← g4]; rfl
    rw [w1, w2]
    exact Spec.of_run hG Tryz.func66 (ro := [1, 20, 26]) (m := 40)
      [.call hv, .eq 11 (eqB (len_ne g1)), .prop (p := 0 < 1 ∧ 1 ≤ 3) (by decide), .prop (p := 0 < 1 ∧ 1 ≤ 2) (by decide), .prop (app_need n.length (by omega) (n.map u32) (by simp)), .eq 20 (app_row n), .prop (p := 0 + 2 ≤ 2) (by decide), .prop (p := 0 < 2 ∧ 0 + 2 ≤ 2) (by decide), .prop (p := 0 < 1 ∧ 1 ≤ 1) (by decide), .prop (app_need d.length (by omega) (d.map u32) (by simp)), .eq 26 (app_row d)] (by kernel_rfl)
  · rw [Raw.q_zero hg]
    rcases Raw.bad hg with h | h
    · rw [h] at hv
      exact Spec.of_run hG Tryz.func66 (ro := [1]) (m := 40) [.call hv, .call (one_spec hG)] (by kernel_rfl)
    · subst h
      exact Spec.of_run hG Tryz.func66 (ro := [1]) (m := 40) [.call hv, .call (one_spec hG)] (by kernel_rfl)

/-! ### form -/
theorem form_pos (hG : Steady G) {s : Bool} {m e : Nat} (hm0 : 0 < m) (he0 : 0 < e) (hm : Sz m) (he : Sz e) :
    Spec Tryz.prog G 70 [wv s m, wv false e] (.agg [bool s, rowW (words (m / Nat.gcd m e)), rowW (words (e / Nat.gcd m e))]) := by
  have hgp : 0 < Nat.gcd m e := Nat.gcd_pos_of_pos_left _ hm0
  have szg : Sz (Nat.gcd m e) := by unfold Sz at *; exact len_gcd hm he
  have c1 := sign_wv (G := G) hG (s := s) (n := m) (fun _ => hm0) hm.le36
  have c2 := sign_wv (G := G) hG (s := false) (n := e) (by simp) he.le36
  rw [if_neg (by omega)] at c1 c2
  have c3 := Gcd_wv (G := G) hG (s := s) (t := false) (m := m) (n := e) (fun _ => hm0) (by simp) hm he
  have c4 := Div_nat (G := G) hG hgp hm szg
  have c5 := Div_nat (G := G) hG hgp he szg
  cases s with
  | false => exact Spec.of_run hG Tryz.func70 (ro := []) (m := 40) [.call c1, .call c2, .call c3, .call c1, .call c4, .call c5] (by kernel_rfl)
  | true =>
    have c6 := Neg_wv (G := G) hG (s := true) (n := m) (fun _ => hm0) hm.le36
    exact Spec.of_run hG Tryz.func70 (ro := []) (m := 40) [.call c1, .call c2, .call c3, .call c1, .call c6, .call c4, .call c5] (by kernel_rfl)
theorem form_neg (hG : Steady G) {s : Bool} {m e : Nat} (hm0 : 0 < m) (he0 : 0 < e) (hm : Sz m) (he : Sz e) :
    Spec Tryz.prog G 70 [wv s m, wv true e] (.agg [bool !s, rowW (words (m / Nat.gcd m e)), rowW (words (e / Nat.gcd m e))]) := by
  have hgp : 0 < Nat.gcd m e := Nat.gcd_pos_of_pos_left _ hm0
  have szg : Sz (Nat.gcd m e) := by unfold Sz at *; exact len_gcd hm he
  have c1 := sign_wv (G := G) hG (s := s) (n := m) (fun _ => hm0) hm.le36
  have c1' := sign_wv (G := G) hG (s := !s) (n := m) (fun _ => hm0) hm.le36
  have c2 := sign_wv (G := G) hG (s := true) (n := e) (fun _ => he0) he.le36
  rw [if_neg (by omega)] at c1 c1' c2
  have c3 := Gcd_wv (G := G) hG (s := !s) (t := false) (m := m) (n := e) (fun _ => hm0) (by simp) hm he
  have c4 := Div_nat (G := G) hG hgp hm szg
  have c5 := Div_nat (G := G) hG hgp he szg
  have n1 := Neg_wv (G := G) hG (s := s) (n := m) (fun _ => hm0) hm.le36
  have n2 := Neg_wv (G := G) hG (s := true) (n := e) (fun _ => he0) he.le36
  have dm : decide (0 < m) = true := decide_eq_true hm0
  rw [dm, Bool.and_true] at n1
  cases s with
  | true => exact Spec.of_run hG Tryz.func70 (ro := []) (m := 40) [.call c1, .call c2, .call n1, .call n2, .call c3, .call c1', .call c4, .call c5] (by kernel_rfl)
  | false =>
    have c6 := Neg_wv (G := G) hG (s := true) (n := m) (fun _ => hm0) hm.le36
    exact Spec.of_run hG Tryz.func70 (ro := []) (m := 40) [.call c1, .call c2, .call n1, .call n2, .call c3, .call c1', .call c6, .call c4, .call c5] (by kernel_rfl)
theorem form_zero (hG : Steady G) (d : Int) : Spec Tryz.prog G 70 [W 0, W d] (F 0) := by
  have c1 := Sign_spec (G := G) hG (i := 0) (by unfold SzI Sz; decide)
  exact Spec.of_run hG Tryz.func70 (ro := [3]) (m := 40) [.call c1] (by kernel_rfl)
theorem dec_neg (s : Bool) {m : Nat} (h : 0 < m) : decide (mkI s m < 0) = s := by
  cases s with
  | false => exact decide_eq_false (by show ¬ (m : Int) < 0; omega)
  | true => exact decide_eq_true (by show -(m : Int) < 0; omega)
theorem mkI_ne (s : Bool) {m : Nat} (h : 0 < m) : mkI s m ≠ 0 := by cases s <;> simp [mkI] <;> omega
/-- A quotient of integers. -/
theorem form_spec (hG : Steady G) {n d : Int} (hd0 : d ≠ 0) (hn : SzI n) (hd : SzI d) : Spec Tryz.prog G 70 [W n, W d] (F (Rat.divInt n d)) := by
  by_cases h0 : n = 0
  · subst h0; rw [Rat.zero_divInt]; exact form_zero hG _
  · obtain ⟨s, m, rfl, hs, hm⟩ := mk_of n
    obtain ⟨t, e, rfl, ht, he⟩ := mk_of d
    unfold SzI at hn hd
    rw [← hm] at hn
    rw [← he] at hd
    have hm0 : 0 < m := by rcases Nat.eq_zero_or_pos m with q | q; (· subst q; exact absurd (by cases s <;> rfl) h0); exact q
    have he0 : 0 < e := by rcases Nat.eq_zero_or_pos e with q | q; (· subst q; exact absurd (by cases t <;> rfl) hd0); exact q
    rw [W_mk hs, W_mk ht]
    cases t with
    | false =>
      rw [F_of (mkI_ne s hm0) (by show (0:Int) < (e : Int); omega), dec_neg s hm0, mkI_abs, mkI_abs]
      have eg : Int.gcd (mkI s m) (mkI false e) = Nat.gcd m e := by unfold Int.gcd; rw [mkI_abs, mkI_abs]
      rw [eg]
      exact form_pos hG hm0 he0 hn hd
    | true =>
      have e1 : mkI s m = -(mkI (!s) m) := by cases s <;> simp [mkI]
      have e2 : mkI true e = -(mkI false e) := rfl
      rw [e1, e2, Rat.neg_divInt_neg, F_of (mkI_ne (!s) hm0) (by show (0:Int) < (e : Int); omega), dec_neg (!s) hm0, mkI_abs, mkI_abs]
      have eg : Int.gcd (mkI (!s) m) (mkI false e) = Nat.gcd m e := by unfold Int.gcd; rw [mkI_abs, mkI_abs]
      rw [eg]
      exact form_neg hG hm0 he0 hn hd
end Lw
