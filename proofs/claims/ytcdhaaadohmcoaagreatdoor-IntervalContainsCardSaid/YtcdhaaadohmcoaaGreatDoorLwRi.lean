/- The contracts of the reference's square roots of intervals, and of equal intervals. No condition. -/
import Derived.Test.YtcdhaaadohmcoaaGreatDoorLwRh
namespace Lw
open Go Go.RowKit Go.Proofs

variable {G : World → Prop}

theorem IRoot_bad (hG : Steady G) (x : RRaw) {b : Int} (hb : b < 0 ∨ 256 < b) : Spec Tryz.prog G 13 [x.dat, int b] (.tup [FR 0 0, errno 3]) := by
  by_cases h : b < 0
  · exact Spec.of_run hG Tryz.func13 (ro := []) (m := 40) [.eq 17 (eqB (decide_eq_true h))] (by kernel_rfl)
  · have h2 : b > 256 := by omega
    exact Spec.of_run hG Tryz.func13 (ro := []) (m := 40) [.eq 17 (eqB (decide_eq_false h)), .eq 20 (eqB (decide_eq_true h2))] (by kernel_rfl)
theorem IRoot_low (hG : Steady G) {k b : Nat} {x : D} {lo hi : Rat} (hx : IsI k x lo hi) (hk : k ≤ KB) (hb : b ≤ 256) (h0 : lo < 0) :
    Spec Tryz.prog G 13 [x, nat b] (.tup [FR 0 0, errno 3]) := by
  have c1 := clean_spec hG hx hk
  obtain ⟨sa, sb⟩ := hx.szL
  have sg := FSign_spec hG sa.isQ hk
  have elt : decide (Int.ofNat b < 0) = false := by simp
  have egt : decide (Int.ofNat b > 256) = false := by simp only [Int.ofNat_eq_natCast, decide_eq_false_iff_not]; omega
  obtain ⟨r, rfl, -, -, -⟩ := hx
  exact Spec.of_run hG Tryz.func13 (ro := []) (m := 40) [.eq 17 (eqB elt), .eq 20 (eqB egt), .call c1, .call sg, .eq 29 (eqB (sgn_lt_true h0))] (by kernel_rfl)
theorem RIRoot_bad (hG : Steady G) (x : RRaw) {b : Int} (hb : b < 0 ∨ 256 < b) : Spec Tryz.prog G 15 [x.dat, int b] (.tup [FR 0 0, int 3]) := by
  by_cases h : b < 0
  · exact Spec.of_run hG Tryz.func15 (ro := []) (m := 40) [.eq 21 (eqB (decide_eq_true h))] (by kernel_rfl)
  · have h2 : b > 256 := by omega
    exact Spec.of_run hG Tryz.func15 (ro := []) (m := 40) [.eq 21 (eqB (decide_eq_false h)), .eq 24 (eqB (decide_eq_true h2))] (by kernel_rfl)
theorem RIRoot_low (hG : Steady G) {k b : Nat} {x : D} {lo hi : Rat} (hx : IsI k x lo hi) (hk : k + k < KB) (hb : b ≤ 256) (h0 : lo < 0) :
    Spec Tryz.prog G 15 [x, nat b] (.tup [FR 0 0, int 3]) := by
  have c1 := given_spec hG hx hk
  obtain ⟨sa, sb⟩ := hx.szL
  have sg := RFSign_spec hG sa.isQ (by omega)
  have elt : decide (Int.ofNat b < 0) = false := by simp
  have egt : decide (Int.ofNat b > 256) = false := by simp only [Int.ofNat_eq_natCast, decide_eq_false_iff_not]; omega
  obtain ⟨r, rfl, -, -, -⟩ := hx
  exact Spec.of_run hG Tryz.func15 (ro := []) (m := 40) [.eq 21 (eqB elt), .eq 24 (eqB egt), .call c1, .call sg, .eq 32 (eqB (sgn_lt_true h0))] (by kernel_rfl)
theorem RIRoot_spec (hG : Steady G) {k b : Nat} {x : D} {lo hi : Rat} (hx : IsI k x lo hi) (hk : k ≤ RK) (hb : b ≤ 256) (h0 : 0 ≤ lo) :
    Spec Tryz.prog G 15 [x, nat b] (.tup [FR (rootLo lo b) (rootHi hi b), int 0]) := by
  rw [RK_eq] at hk
  have hkb := KB_eq
  have h30 : (2:Nat) ^ 30 = 1073741824 := by decide
  have c1 := given_spec hG hx (by omega)
  obtain ⟨sa, sb⟩ := hx.szL
  have h1 : 0 ≤ hi := Rat.le_trans h0 hx.le
  have sg := RFSign_spec hG sa.isQ (by omega)
  have s2 := sz_twoQ hb
  have ssq : SzQ (9 + 9) (sqQ b) := s2.mul s2
  have of1 := ROf_spec (G := G) hG (i := 1) (by omega) (by omega)
  have lw : (words ((2 ^ b : Nat) : Int).natAbs).length ≤ 9 := by rw [Int.natAbs_natCast]; exact len_two hb
  have szw := szI_mul lw lw (by rw [KB_eq]; omega) (by rw [KB_eq]; omega)
  have sm := RMul_spec (G := G) hG (szI_two hb) (szI_two hb)
  have sf := RFrom_spec (G := G) hG (d := 1) (by omega) szw szI_one
  rw [ofI] at sf
  have esq : ((((2 ^ b : Nat) : Int) * ((2 ^ b : Nat) : Int) : Int) : Rat) = sqQ b := by unfold sqQ twoQ; rw [Rat.intCast_mul]
  rw [esq] at sf
  have m1 := RFMul_spec hG sa.isQ ssq.isQ (by omega) (by omega)
  have ma := sa.mul ssq
  have fl1 := RFloor_spec hG ma.isQ (by omega)
  have la := sz_floor ma
  have p1 : 0 ≤ lo * sqQ b := Rat.mul_nonneg h0 (Rat.le_of_lt (sqQ_pos b))
  have r1 := RRoot_spec (G := G) hG (szI_of la (by omega)) (floor_nonneg p1)
  have m2 := RFMul_spec hG sb.isQ ssq.isQ (by omega) (by omega)
  have mb := sb.mul ssq
  have fl2 := RFloor_spec hG mb.isQ (by omega)
  have lb := sz_floor mb
  have p2 : 0 ≤ hi * sqQ b := Rat.mul_nonneg h1 (Rat.le_of_lt (sqQ_pos b))
  have r2 := RRoot_spec (G := G) hG (szI_of lb (by omega)) (floor_nonneg p2)
  have hup := up_other p2
  have l1 := len_isq (lo * sqQ b).floor.natAbs
  have l2 := len_isq (hi * sqQ b).floor.natAbs
  have l1' : (words ((isq (lo * sqQ b).floor.natAbs : Nat) : Int).natAbs).length ≤ k + (9 + 9) := by rw [Int.natAbs_natCast]; omega
  have l2' : (words ((isq (hi * sqQ b).floor.natAbs : Nat) : Int).natAbs).length ≤ k + (9 + 9) := by rw [Int.natAbs_natCast]; omega
  have mm := RMul_spec (G := G) hG (szI_of l2' (by omega)) (szI_of l2' (by omega))
  have szmm := szI_mul l2' l2' (by omega) (by omega)
  have lmm := Nat.le_trans (len_mulI (a := ((isq (hi * sqQ b).floor.natAbs : Nat) : Int)) (b := ((isq (hi * sqQ b).floor.natAbs : Nat) : Int))) (Nat.add_le_add l2' l2')
  have fw := RFrom_spec (G := G) hG (d := 1) (by omega) szmm szI_one
  rw [ofI] at fw
  have cc := RFCmp_spec hG (sz_int (by omega) lmm).isQ mb.isQ (by omega)
  have ad := RAdd_spec (G := G) hG (szI_of l2' (by omega)) szI_one
  have f1 := RFrom_spec (G := G) hG (two_ne b) (szI_of l1' (by omega)) (szI_two hb)
  rw [Rat.divInt_eq_div] at f1
  have elt : decide (Int.ofNat b < 0) = false := by simp
  have egt : decide (Int.ofNat b > 256) = false := by simp only [Int.ofNat_eq_natCast, decide_eq_false_iff_not]; omega
  have esg : decide (sgn lo < 0) = false := sgn_lt_false (by rw [Rat.not_lt]; exact h0)
  have hloop := rrs_loop (G := G) hG lo hi hb
  unfold rootLo rootHi twoQ
  rw [hup]
  by_cases hlt : (((((isq (hi * sqQ b).floor.natAbs : Nat) : Int) * ((isq (hi * sqQ b).floor.natAbs : Nat) : Int) : Int)) : Rat) < hi * sqQ b
  · rw [if_pos hlt]
    have l3 : (words (((isq (hi * sqQ b).floor.natAbs : Nat) : Int) + 1).natAbs).length ≤ k + (9 + 9) + 1 := by
      have := len_addI (a := ((isq (hi * sqQ b).floor.natAbs : Nat) : Int)) (b := 1)
      have e1 : (words (1 : Int).natAbs).length = 1 := rfl
      omega
    have f2 := RFrom_spec (G := G) hG (two_ne b) (szI_of l3 (by omega)) (szI_two hb)
    rw [Rat.divInt_eq_div] at f2
    obtain ⟨r, rfl, -, -, -⟩ := hx
    exact Spec.of_run hG Tryz.func15 (ro := []) (m := 60)
      [.eq 21 (eqB elt), .eq 24 (eqB egt), .call c1, .call sg, .eq 32 (eqB esg), .call of1, .code hloop, .call sm, .call of1, .call sf, .call m1, .call fl1, .call r1, .call m2, .call fl2, .call r2,
       .call mm, .call of1, .call fw, .call cc, .eq 80 (eqB (cmpQ_lt_true hlt)), .call of1, .call ad, .call f1, .call f2] (by kernel_rfl)
  · rw [if_neg hlt]
    have f2 := RFrom_spec (G := G) hG (two_ne b) (szI_of l2' (by omega)) (szI_two hb)
    rw [Rat.divInt_eq_div] at f2
    obtain ⟨r, rfl, -, -, -⟩ := hx
    exact Spec.of_run hG Tryz.func15 (ro := []) (m := 60)
      [.eq 21 (eqB elt), .eq 24 (eqB egt), .call c1, .call sg, .eq 32 (eqB esg), .call of1, .code hloop, .call sm, .call of1, .call sf, .call m1, .call fl1, .call r1, .call m2, .call fl2, .call r2,
       .call mm, .call of1, .call fw, .call cc, .eq 80 (eqB (cmpQ_lt_false hlt)), .call f1, .call f2] (by kernel_rfl)

/-! ### Same -/
theorem SameI_refl (hG : Steady G) {k : Nat} {a b : Rat} (ha : SzQ k a) (hb : SzQ k b) (hk : k ≤ KB) : Spec Tryz.prog G 17 [FR a b, FR a b] (bool true) := by
  have s1 := SameF_spec (G := G) (b := a) hG ha hk
  have s2 := SameF_spec (G := G) (b := b) hG hb hk
  rw [decide_eq_true rfl] at s1 s2
  exact Spec.of_run hG Tryz.func17 (ro := [2, 3]) (m := 30) [.call s1, .call s2] (by kernel_rfl)

/-! ### Div -/
theorem one_div_pos_le {c d : Rat} (h : c ≤ d) (hc : ¬ (c ≤ 0 ∧ 0 ≤ d)) : c ≠ 0 ∧ d ≠ 0 ∧ ((1 : Int) : Rat) / d ≤ ((1 : Int) : Rat) / c := by
  have e1 : ((1 : Int) : Rat) = 1 := rfl
  rw [e1]
  have h0 : c ≠ 0 := fun e => hc ⟨by grind, by grind⟩
  have h1 : d ≠ 0 := fun e => hc ⟨by grind, by grind⟩
  refine ⟨h0, h1, ?_⟩
  have k1 : (1 / c) * c = 1 := Rat.div_mul_cancel h0
  have k2 : (1 / d) * d = 1 := Rat.div_mul_cancel h1
  generalize 1 / c = u at *
  generalize 1 / d = v at *
  have hsame : 0 < c * d := by
    by_cases hcp : 0 < c
    · exact Rat.mul_pos hcp (by grind)
    · have hcn : c < 0 := by grind
      have hdn : d < 0 := by
        rcases Rat.le_total (a := 0) (b := d) with q | q
        · exact absurd ⟨Rat.le_of_lt hcn, q⟩ hc
        · exact Rat.lt_of_le_of_ne q h1
      have := Rat.mul_pos (a := -c) (b := -d) (by grind) (by grind)
      grind
  have key : v * (c * d) ≤ u * (c * d) := by
    have a1 : v * (c * d) = c := by grind
    have a2 : u * (c * d) = d := by grind
    rw [a1, a2]; exact h
  exact Rat.le_of_mul_le_mul_right key hsame
theorem IDiv_zero (hG : Steady G) {k l : Nat} {x y : D} {a b c d : Rat} (hx : IsI k x a b) (hy : IsI l y c d) (hl : l ≤ KB) (hc : c ≤ 0 ∧ 0 ≤ d) :
    Spec Tryz.prog G 33 [x, y] (.tup [FR 0 0, errno 8]) := by
  have c1 := clean_spec hG hy hl
  have c2 := Contains_spec hG hy.isI isQ_zero hl (by rw [KB_eq]; omega)
  rw [decide_eq_true hc.1, decide_eq_true hc.2] at c2
  obtain ⟨r, rfl, -, -, -⟩ := hx
  obtain ⟨p, rfl, -, -, -⟩ := hy
  exact Spec.of_run hG Tryz.func33 (ro := [2]) (m := 40) [.call c1, .call c2] (by kernel_rfl)
theorem sz_one {k : Nat} (h : 0 < k) : SzQ k ((1 : Int) : Rat) := sz_int h (by show (words 1).length ≤ k; rw [len_one]; omega)
theorem IDiv_spec (hG : Steady G) {k l : Nat} {x y : D} {a b c d : Rat} (hx : IsI k x a b) (hy : IsI l y c d) (hk : k + (l + 1) ≤ KB) (hc : ¬ (c ≤ 0 ∧ 0 ≤ d)) :
    Spec Tryz.prog G 33 [x, y] (.tup [FR (mulLo a b (((1 : Int) : Rat) / d) (((1 : Int) : Rat) / c)) (mulHi a b (((1 : Int) : Rat) / d) (((1 : Int) : Rat) / c)), .lit .nilIface]) := by
  have c1 := clean_spec hG hy (by omega)
  have c2 := Contains_spec hG hy.isI isQ_zero (by omega) (by rw [KB_eq]; omega)
  have e2 : (decide (c ≤ 0) && decide (0 ≤ d)) = false := by rw [← Bool.decide_and]; exact decide_eq_false hc
  rw [e2] at c2
  obtain ⟨sc, sd⟩ := hy.szL
  obtain ⟨n1, n2, hle⟩ := one_div_pos_le hy.le hc
  have o1 := FOf_spec (G := G) hG (i := 1) (by omega) (by omega)
  have s1 := sz_one (k := 1) (by omega)
  have d1 := FDiv_spec hG s1.isQ sd.isQ (by rw [KB_eq]; omega) (by omega) n2
  have d2 := FDiv_spec hG s1.isQ sc.isQ (by rw [KB_eq]; omega) (by omega) n1
  have hi := FR_isI ((s1.div sd).mono (l := l + 1) (by omega)) ((s1.div sc).mono (l := l + 1) (by omega)) hle
  have m := IMul_spec hG hx hi hk
  obtain ⟨r, rfl, -, -, -⟩ := hx
  obtain ⟨p, rfl, -, -, -⟩ := hy
  exact Spec.of_run hG Tryz.func33 (ro := [2]) (m := 40) [.call c1, .call c2, .call o1, .call d1, .call o1, .call d2, .call m] (by kernel_rfl)
end Lw
