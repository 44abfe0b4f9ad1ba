/- The contracts of the reference's fractions. No condition. -/
import Derived.Test.YtfdllnbmjlhliaaGreatDoorLwRc
namespace Lw
open Go Go.RowKit Go.Proofs

variable {G : World → Prop}

theorem rone_spec (hG : Steady G) : Spec Tryz.prog G 83 [] (W 1) :=
  Spec.of_run hG Tryz.func83 (ro := []) (m := 30) [.call (ROf_spec hG (i := 1) (by omega) (by omega))] (by kernel_rfl)
theorem plain_nil (hG : Steady G) : Spec Tryz.prog G 89 [rowW []] (bool false) :=
  Spec.of_run hG Tryz.func89 (ro := []) (m := 30) [] (by kernel_rfl)
theorem plain_spec (hG : Steady G) {l : List Nat} (hl : Dig l) (h1 : l.length ≤ 2 ^ 36) (h : l ≠ []) : Spec Tryz.prog G 89 [rowW l] (bool (Full l)) := by
  have h36 : (2:Nat) ^ 36 = 68719476736 := by decide
  have hp : 0 < l.length := List.length_pos_iff.2 h
  rw [full_last hl h]
  exact Spec.of_run hG Tryz.func89 (ro := []) (m := 30)
    [.eq 5 (eqB (x := decide (Int.ofNat l.length > 0)) (y := true) (by simp; omega)), .eq 10 (eqS (nat_pred (i := l.length) (by omega) hp)), .prop (at_need (l := l) (i := l.length - 1) (by omega)), .prop (load_need (l := l) (i := l.length - 1) (by omega)), .eq 12 (headD_need (l := l) (i := l.length - 1) (by omega)),
     .eq 13 (eqB (x := (Int.ofNat (l.getD (l.length - 1) 0) != 0)) (y := !(l.getD (l.length - 1) 0 == 0)) (by rw [Bool.eq_iff_iff]; simp))] (by kernel_rfl)
theorem RGcd_wv (hG : Steady G) {s t : Bool} {m n : Nat} (hs : s = true → 0 < m) (ht : t = true → 0 < n) (hm : Sz m) (hn : Sz n) : Spec Tryz.prog G 91 [wv s m, wv t n] (wv false (Nat.gcd m n)) := by
  have h := RGcd_spec (G := G) hG (i := mkI s m) (j := mkI t n) (by unfold SzI; rw [mkI_abs]; exact hm) (by unfold SzI; rw [mkI_abs]; exact hn)
  rw [W_mk hs, W_mk ht, W_nat] at h
  have e : Int.gcd (mkI s m) (mkI t n) = Nat.gcd m n := by unfold Int.gcd; rw [mkI_abs, mkI_abs]
  rw [e] at h
  exact h
theorem RCmp_one (hG : Steady G) {g : Nat} (h : (words g).length < 2 ^ 30) : Spec Tryz.prog G 90 [wv false g, W 1] (int (cmpZ (g : Int) 1)) := by
  have := RCmp_spec (G := G) hG (i := (g : Int)) (j := 1) h (by decide)
  rw [W_nat] at this
  exact this

/-! ### Valid -/
theorem RFValid_spec (hG : Steady G) {r : Raw} {k : Nat} (hr : r.ok k) (hk : k ≤ KB) : Spec Tryz.prog G 55 [r.dat] (bool r.valid) := by
  have h30 : (2:Nat) ^ 30 = 1073741824 := by decide
  have h36 : (2:Nat) ^ 36 = 68719476736 := by decide
  obtain ⟨s, n, d⟩ := r
  obtain ⟨hn, hd, ln, ld, -⟩ := hr
  simp only at hn hd ln ld
  rw [KB_eq] at hk
  by_cases en : n = []
  · subst en
    by_cases ed : d = []
    · subst ed
      exact Spec.of_run hG Tryz.func55 (ro := [1]) (m := 40) [] (by kernel_rfl)
    · have hv : (Raw.mk s [] d).valid = false := by
        unfold Raw.valid
        rw [if_neg (fun h => ed h.2)]
        exact decide_eq_false fun h => h.1 rfl
      rw [hv]
      exact Spec.of_run hG Tryz.func55 (ro := [1]) (m := 40) [.eq 11 (eqB (len_ne ed)), .call (plain_nil hG)] (by kernel_rfl)
  · have hv0 : (Raw.mk s n d).valid = decide (Raw.mk s n d).good := by unfold Raw.valid; rw [if_neg (fun h => en h.1)]
    have v1 := plain_spec (G := G) hG hn (by omega) en
    cases f1 : Full n with
    | false =>
      rw [f1] at v1
      have hv : (Raw.mk s n d).valid = false := by
        rw [hv0]
        refine decide_eq_false fun h => ?_
        have h3 : n = words (val n) := h.2.2.1
        rw [h3, Full_words] at f1; cases f1
      rw [hv]
      exact Spec.of_run hG Tryz.func55 (ro := [1]) (m := 40) [.eq 6 (eqB (len_ne en)), .call v1] (by kernel_rfl)
    | true =>
      rw [f1] at v1
      by_cases ed : d = []
      · subst ed
        have hv : (Raw.mk s n []).valid = false := by rw [hv0]; exact decide_eq_false fun h => h.2.1 rfl
        rw [hv]
        exact Spec.of_run hG Tryz.func55 (ro := [1]) (m := 40) [.eq 6 (eqB (len_ne en)), .call v1, .call (plain_nil hG)] (by kernel_rfl)
      · have v2 := plain_spec (G := G) hG hd (by omega) ed
        cases f2 : Full d with
        | false =>
          rw [f2] at v2
          have hv : (Raw.mk s n d).valid = false := by
            rw [hv0]
            refine decide_eq_false fun h => ?_
            have h3 : d = words (val d) := h.2.2.2.1
            rw [h3, Full_words] at f2; cases f2
          rw [hv]
          exact Spec.of_run hG Tryz.func55 (ro := [1]) (m := 40) [.eq 6 (eqB (len_ne en)), .call v1, .call v2] (by kernel_rfl)
        | true =>
          rw [f2] at v2
          obtain ⟨N, rfl⟩ := full_get f1
          obtain ⟨M, rfl⟩ := full_get f2
          have hN : 0 < N := by rcases Nat.eq_zero_or_pos N with e | e; (· subst e; exact absurd rfl en); exact e
          have hM : 0 < M := by rcases Nat.eq_zero_or_pos M with e | e; (· subst e; exact absurd rfl ed); exact e
          have szg : (words (Nat.gcd N M)).length < 2 ^ 30 := by have := len_gcd (k := k) ln ld; omega
          have g1 := RGcd_wv (G := G) hG (s := false) (t := false) (m := N) (n := M) (by simp) (by simp) (by unfold Sz; omega) (by unfold Sz; omega)
          have hv : (Raw.mk s (words N) (words M)).valid = decide (Nat.gcd N M = 1) := by rw [hv0]; exact decide_eq_decide.2 (good_iff s N M hN hM)
          rw [hv]
          exact Spec.of_run hG Tryz.func55 (ro := [1]) (m := 40)
            [.eq 6 (eqB (len_ne en)), .call v1, .call v2, .call g1, .call (rone_spec hG), .call (RCmp_one hG szg), .eq 34 (eqB (cmp_one (Nat.gcd N M)))] (by kernel_rfl)
theorem RParts_spec (hG : Steady G) {r : Raw} {k : Nat} (hr : r.ok k) (hk : k ≤ KB) : Spec Tryz.prog G 93 [r.dat] (.tup [W r.q.num, W r.q.den]) := by
  have hv := RFValid_spec (G := G) hG hr hk
  by_cases hg : r.good
  · obtain ⟨e1, e2⟩ := Raw.q_parts hg
    have p1 := Raw.good_num hg
    have p2 := Raw.good_den hg
    rw [Raw.good_valid hg] at hv
    rw [e1, e2, W_mk (fun _ => p1), W_nat]
    obtain ⟨s, n, d⟩ := r
    obtain ⟨g1, g2, g3, g4, -⟩ := hg
    simp only at g1 g2 g3 g4 p1 p2 ⊢
    have w1 : wv s (val n) = .agg [bool s, rowW n] := by unfold wv; rw [← g3]
    have w2 : wv (false && decide (0 < val d)) (val d) = .agg [bool false, rowW d] := by unfold wv; rw [← g4]; rfl
    rw [w1, w2]
    exact Spec.of_run hG Tryz.func93 (ro := [1]) (m := 40) [.call hv, .eq 11 (eqB (len_ne g1))] (by kernel_rfl)
  · rw [Raw.q_zero hg]
    rcases Raw.bad hg with h | h
    · rw [h] at hv
      exact Spec.of_run hG Tryz.func93 (ro := [1]) (m := 40) [.call hv, .call (rone_spec hG)] (by kernel_rfl)
    · subst h
      exact Spec.of_run hG Tryz.func93 (ro := [1]) (m := 40) [.call hv, .call (rone_spec hG)] (by kernel_rfl)

/-! ### form -/
theorem RDiv_exact (hG : Steady G) {s : Bool} {m g : Nat} (hm0 : 0 < m) (hg0 : 0 < g) (hd : g ∣ m) (hm : Sz m) (hg : Sz g) :
    Spec Tryz.prog G 113 [wv s m, wv false g] (.tup [wv s (m / g), wv (false && decide (0 < m % g)) (m % g), int 0]) := by
  have h := RDiv_even (G := G) hG (s := s) (t := false) (m := m) (n := g) (fun _ => hm0) (by simp) hg0 hm hg (.inr (Nat.mod_eq_zero_of_dvd hd))
  have hp : 0 < m / g := Nat.div_pos (Nat.le_of_dvd hm0 hd) hg0
  rw [decide_eq_true hp, Bool.and_true, Bool.xor_false] at h
  exact h
theorem rform_pos (hG : Steady G) {s : Bool} {m e : Nat} (hm0 : 0 < m) (he0 : 0 < e) (hm : Sz m) (he : Sz e) :
    Spec Tryz.prog G 81 [wv s m, wv false e] (.agg [bool s, rowW (words (m / Nat.gcd m e)), rowW (words (e / Nat.gcd m e))]) := by
  have hgp : 0 < Nat.gcd m e := Nat.gcd_pos_of_pos_left _ hm0
  have szg : Sz (Nat.gcd m e) := by unfold Sz at *; exact len_gcd hm he
  have c1 := Rsign_wv (G := G) hG (s := s) (n := m) (fun _ => hm0) hm.le36
  have c2 := Rsign_wv (G := G) hG (s := false) (n := e) (by simp) he.le36
  rw [if_neg (by omega)] at c1 c2
  have c3 := RGcd_wv (G := G) hG (s := s) (t := false) (m := m) (n := e) (fun _ => hm0) (by simp) hm he
  have c4 := RDiv_exact (G := G) hG (s := s) hm0 hgp (Nat.gcd_dvd_left m e) hm szg
  have c5 := RDiv_exact (G := G) hG (s := false) he0 hgp (Nat.gcd_dvd_right m e) he szg
  cases s <;> exact Spec.of_run hG Tryz.func81 (ro := []) (m := 40) [.call c1, .call c2, .call c3, .call c4, .call c5] (by kernel_rfl)
theorem rform_neg (hG : Steady G) {s : Bool} {m e : Nat} (hm0 : 0 < m) (he0 : 0 < e) (hm : Sz m) (he : Sz e) :
    Spec Tryz.prog G 81 [wv s m, wv true e] (.agg [bool !s, rowW (words (m / Nat.gcd m e)), rowW (words (e / Nat.gcd m e))]) := by
  have hgp : 0 < Nat.gcd m e := Nat.gcd_pos_of_pos_left _ hm0
  have szg : Sz (Nat.gcd m e) := by unfold Sz at *; exact len_gcd hm he
  have c1 := Rsign_wv (G := G) hG (s := s) (n := m) (fun _ => hm0) hm.le36
  have c2 := Rsign_wv (G := G) hG (s := true) (n := e) (fun _ => he0) he.le36
  rw [if_neg (by omega)] at c1 c2
  have c3 := RGcd_wv (G := G) hG (s := !s) (t := false) (m := m) (n := e) (fun _ => hm0) (by simp) hm he
  have c4 := RDiv_exact (G := G) hG (s := !s) hm0 hgp (Nat.gcd_dvd_left m e) hm szg
  have c5 := RDiv_exact (G := G) hG (s := false) he0 hgp (Nat.gcd_dvd_right m e) he szg
  have n1 := RNeg_wv (G := G) hG (s := s) (n := m) (fun _ => hm0) hm.le36
  have n2 := RNeg_wv (G := G) hG (s := true) (n := e) (fun _ => he0) he.le36
  rw [decide_eq_true hm0, Bool.and_true] at n1
  cases s <;> exact Spec.of_run hG Tryz.func81 (ro := []) (m := 40) [.call c1, .call c2, .call n1, .call n2, .call c3, .call c4, .call c5] (by kernel_rfl)
theorem rform_zero (hG : Steady G) (d : Int) : Spec Tryz.prog G 81 [W 0, W d] (F 0) := by
  have c1 := RSign_spec (G := G) hG (i := 0) (by unfold SzI Sz; decide)
  exact Spec.of_run hG Tryz.func81 (ro := [3]) (m := 40) [.call c1] (by kernel_rfl)
theorem rfrm_spec (hG : Steady G) {n d : Int} (hd0 : d ≠ 0) (hn : SzI n) (hd : SzI d) : Spec Tryz.prog G 81 [W n, W d] (F (Rat.divInt n d)) := by
  by_cases h0 : n = 0
  · subst h0; rw [Rat.zero_divInt]; exact rform_zero hG _
  · obtain ⟨s, m, rfl, hs, hm⟩ := mk_of n
    obtain ⟨t, e, rfl, ht, he⟩ := mk_of d
    unfold SzI at hn hd
    rw [← hm] at hn
    rw [← he] at hd
    have hm0 : 0 < m := by rcases Nat.eq_zero_or_pos m with q | q; (· subst q; exact absurd (by cases s <;> rfl) h0); exact q
    have he0 : 0 < e := by rcases Nat.eq_zero_or_pos e with q | q; (· subst q; exact absurd (by cases t <;> rfl) hd0); exact q
    rw [W_mk hs, W_mk ht]
    cases t with
    | false =>
      rw [F_of (mkI_ne s hm0) (by show (0:Int) < (e : Int); omega), dec_neg s hm0, mkI_abs, mkI_abs]
      have eg : Int.gcd (mkI s m) (mkI false e) = Nat.gcd m e := by unfold Int.gcd; rw [mkI_abs, mkI_abs]
      rw [eg]
      exact rform_pos hG hm0 he0 hn hd
    | true =>
      have e1 : mkI s m = -(mkI (!s) m) := by cases s <;> simp [mkI]
      have e2 : mkI true e = -(mkI false e) := rfl
      rw [e1, e2, Rat.neg_divInt_neg, F_of (mkI_ne (!s) hm0) (by show (0:Int) < (e : Int); omega), dec_neg (!s) hm0, mkI_abs, mkI_abs]
      have eg : Int.gcd (mkI (!s) m) (mkI false e) = Nat.gcd m e := by unfold Int.gcd; rw [mkI_abs, mkI_abs]
      rw [eg]
      exact rform_neg hG hm0 he0 hn hd
theorem IsQ.rparts {k : Nat} {x : D} {a : Rat} (hG : Steady G) (h : IsQ k x a) (hk : k ≤ KB) : Spec Tryz.prog G 93 [x] (.tup [W a.num, W a.den]) := by
  obtain ⟨r, rfl, hr, rfl⟩ := h; exact RParts_spec hG hr hk

theorem RFAdd_spec (hG : Steady G) {k l : Nat} {x y : D} {a b : Rat} (hx : IsQ k x a) (hy : IsQ l y b) (hk : k ≤ KB) (hl : l ≤ KB) : Spec Tryz.prog G 60 [x, y] (F (a + b)) := by
  have p1 := hx.rparts hG hk
  have p2 := hy.rparts hG hl
  have m1 := RMul_spec (G := G) hG (hx.num hk) (hy.den hl)
  have m2 := RMul_spec (G := G) hG (hy.num hl) (hx.den hk)
  have m3 := RMul_spec (G := G) hG (hx.den hk) (hy.den hl)
  have s1 := RAdd_spec (G := G) hG (szI_mul hx.sz.1 hy.dlen hk hl) (szI_mul hy.sz.1 hx.dlen hl hk)
  have f1 := rfrm_spec (G := G) hG (dens_ne a b) (szI_sum hx hy hk hl) (szI_mul hx.dlen hy.dlen hk hl)
  rw [add_parts] at f1
  obtain ⟨r, rfl, -, rfl⟩ := hx
  obtain ⟨q, rfl, -, rfl⟩ := hy
  exact Spec.of_run hG Tryz.func60 (ro := [2, 3]) (m := 40) [.call p1, .call p2, .call m1, .call m2, .call s1, .call m3, .call f1] (by kernel_rfl)
theorem RFMul_spec (hG : Steady G) {k l : Nat} {x y : D} {a b : Rat} (hx : IsQ k x a) (hy : IsQ l y b) (hk : k ≤ KB) (hl : l ≤ KB) : Spec Tryz.prog G 59 [x, y] (F (a * b)) := by
  have p1 := hx.rparts hG hk
  have p2 := hy.rparts hG hl
  have m1 := RMul_spec (G := G) hG (hx.num hk) (hy.num hl)
  have m3 := RMul_spec (G := G) hG (hx.den hk) (hy.den hl)
  have f1 := rfrm_spec (G := G) hG (dens_ne a b) (szI_mul hx.sz.1 hy.sz.1 hk hl) (szI_mul hx.dlen hy.dlen hk hl)
  rw [mul_parts] at f1
  obtain ⟨r, rfl, -, rfl⟩ := hx
  obtain ⟨q, rfl, -, rfl⟩ := hy
  exact Spec.of_run hG Tryz.func59 (ro := [2, 3]) (m := 40) [.call p1, .call p2, .call m1, .call m3, .call f1] (by kernel_rfl)
theorem RFNeg_spec (hG : Steady G) {k : Nat} {x : D} {a : Rat} (hx : IsQ k x a) (hk : k ≤ KB) : Spec Tryz.prog G 97 [x] (F (-a)) := by
  have p1 := hx.rparts hG hk
  have n1 := RNeg_spec (G := G) hG (hx.num hk)
  have f1 := rfrm_spec (G := G) hG (den_ne a) (n := -a.num) (by have := hx.num hk; unfold SzI at this ⊢; rw [Int.natAbs_neg]; exact this) (hx.den hk)
  rw [neg_parts] at f1
  obtain ⟨r, rfl, -, rfl⟩ := hx
  exact Spec.of_run hG Tryz.func97 (ro := [1]) (m := 40) [.call p1, .call n1, .call f1] (by kernel_rfl)
theorem RFSub_spec (hG : Steady G) {k l : Nat} {x y : D} {a b : Rat} (hx : IsQ k x a) (hy : IsQ l y b) (hk : k ≤ KB) (hl : l ≤ KB) : Spec Tryz.prog G 62 [x, y] (F (a - b)) := by
  have n1 := RFNeg_spec hG hy hl
  have s1 := RFAdd_spec hG hx hy.sz.neg.isQ hk hl
  rw [← Rat.sub_eq_add_neg] at s1
  obtain ⟨r, rfl, -, rfl⟩ := hx
  obtain ⟨q, rfl, -, rfl⟩ := hy
  exact Spec.of_run hG Tryz.func62 (ro := [2, 3]) (m := 40) [.call n1, .call s1] (by kernel_rfl)
theorem RFSign_spec (hG : Steady G) {k : Nat} {x : D} {a : Rat} (hx : IsQ k x a) (hk : k ≤ KB) : Spec Tryz.prog G 92 [x] (int (sgn a)) := by
  have p1 := hx.rparts hG hk
  have n1 := RSign_spec (G := G) hG (hx.num hk)
  obtain ⟨r, rfl, -, rfl⟩ := hx
  exact Spec.of_run hG Tryz.func92 (ro := [1]) (m := 40) [.call p1, .call n1] (by kernel_rfl)
theorem RFCmp_spec (hG : Steady G) {k l : Nat} {x y : D} {a b : Rat} (hx : IsQ k x a) (hy : IsQ l y b) (hkl : k + l < KB) : Spec Tryz.prog G 79 [x, y] (int (cmpQ a b)) := by
  have s1 := RFSub_spec hG hx hy (by omega) (by omega)
  have c1 := RFSign_spec hG (hx.sz.sub hy.sz).isQ (by omega)
  rw [cmpQ_sub] at c1
  obtain ⟨r, rfl, -, rfl⟩ := hx
  obtain ⟨q, rfl, -, rfl⟩ := hy
  exact Spec.of_run hG Tryz.func79 (ro := [2, 3]) (m := 40) [.call s1, .call c1] (by kernel_rfl)
theorem rat_add0 (a : Rat) : a + 0 = a := Rat.add_zero a
theorem isQ_zero : IsQ 1 (F 0) 0 := (sz_zero (by omega)).isQ
theorem RFAdd0 (hG : Steady G) {k : Nat} {x : D} {a : Rat} (hx : IsQ k x a) (hk : k ≤ KB) : Spec Tryz.prog G 60 [x, F 0] (F a) := by
  have := RFAdd_spec hG hx isQ_zero hk (by rw [KB_eq]; omega)
  rwa [rat_add0] at this
theorem RFOf_spec (hG : Steady G) {i : Int} (h : -9223372036854775808 ≤ i) (h' : i < 9223372036854775808) : Spec Tryz.prog G 45 [int i] (F (i : Rat)) := by
  have f1 := rfrm_spec (G := G) hG (n := i) (d := 1) (by omega) (szI_small h h') szI_one
  rw [ofI] at f1
  exact Spec.of_run hG Tryz.func45 (ro := []) (m := 40) [.call (ROf_spec hG h h'), .call (rone_spec hG), .call f1] (by kernel_rfl)
theorem RFrom_spec (hG : Steady G) {n d : Int} (hd0 : d ≠ 0) (hn : SzI n) (hd : SzI d) : Spec Tryz.prog G 129 [W n, W d] (.tup [F (Rat.divInt n d), int 0]) :=
  Spec.of_run hG Tryz.func129 (ro := [2, 3]) (m := 40) [.call (RSign_spec hG hd), .eq 8 (eqB (sign_ne hd0)), .call (rfrm_spec hG hd0 hn hd)] (by kernel_rfl)
theorem RFrom_zero (hG : Steady G) {n : Int} : Spec Tryz.prog G 129 [W n, W 0] (.tup [F 0, int 8]) :=
  Spec.of_run hG Tryz.func129 (ro := [2, 3]) (m := 40) [.call (RSign_spec (G := G) hG (i := 0) (by unfold SzI Sz; decide))] (by kernel_rfl)
theorem RFDiv_spec (hG : Steady G) {k l : Nat} {x y : D} {a b : Rat} (hx : IsQ k x a) (hy : IsQ l y b) (hk : k ≤ KB) (hl : l ≤ KB) (hb : b ≠ 0) :
    Spec Tryz.prog G 96 [x, y] (.tup [F (a / b), int 0]) := by
  have p1 := hx.rparts hG hk
  have p2 := hy.rparts hG hl
  have m1 := RMul_spec (G := G) hG (hx.num hk) (hy.den hl)
  have m2 := RMul_spec (G := G) hG (hx.den hk) (hy.num hl)
  have hne : ((a.den : Nat) : Int) * b.num ≠ 0 := Int.mul_ne_zero (den_ne a) (fun h => hb (Rat.num_eq_zero.1 h))
  have f1 := RFrom_spec (G := G) hG hne (szI_mul hx.sz.1 hy.dlen hk hl) (szI_mul hx.dlen hy.sz.1 hk hl)
  rw [div_parts] at f1
  obtain ⟨r, rfl, -, rfl⟩ := hx
  obtain ⟨q, rfl, -, rfl⟩ := hy
  exact Spec.of_run hG Tryz.func96 (ro := [2, 3]) (m := 40) [.call p1, .call p2, .call m1, .call m2, .call f1] (by kernel_rfl)
theorem RFDiv_zero (hG : Steady G) {k l : Nat} {x y : D} {a : Rat} (hx : IsQ k x a) (hy : IsQ l y 0) (hk : k ≤ KB) (hl : l ≤ KB) :
    Spec Tryz.prog G 96 [x, y] (.tup [F 0, int 8]) := by
  have p1 := hx.rparts hG hk
  have p2 := hy.rparts hG hl
  have m1 := RMul_spec (G := G) hG (hx.num hk) (hy.den hl)
  have m2 := RMul_spec (G := G) hG (hx.den hk) (hy.num hl)
  rw [Rat.zero_num, Int.mul_zero] at m2
  obtain ⟨r, rfl, -, rfl⟩ := hx
  obtain ⟨q, rfl, -, hq⟩ := hy
  exact Spec.of_run hG Tryz.func96 (ro := [2, 3]) (m := 40) [.call p1, .call p2, .call m1, .call m2, .call (RFrom_zero hG (n := r.q.num * ((0 : Rat).den : Nat)))] (by kernel_rfl)
end Lw
