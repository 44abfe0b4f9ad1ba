/- The contracts of the other functions of intervals, in the program and in the reference. No condition. -/
import Derived.Test.YtcdhaaadohmcoaaGreatDoorLwTc
namespace Lw
open Go Go.RowKit Go.Proofs

variable {G : World → Prop}

theorem rmin_self (a : Rat) : min a a = a := by rw [Rat.min_def]; split <;> rfl
theorem rmax_self (a : Rat) : max a a = a := by rw [Rat.max_def]; split <;> rfl
theorem rmin_l {a b : Rat} (h : a ≤ b) : min a b = a := by rw [Rat.min_def, if_pos h]
theorem rmin_r {a b : Rat} (h : b ≤ a) : min a b = b := by rw [Rat.min_def]; split; (· rename_i h2; exact Rat.le_antisymm h2 h); rfl
theorem rmax_r {a b : Rat} (h : a ≤ b) : max a b = b := by rw [Rat.max_def, if_pos h]
theorem rmax_l {a b : Rat} (h : b ≤ a) : max a b = a := by rw [Rat.max_def]; split; (· rename_i h2; exact Rat.le_antisymm h h2); rfl
theorem IsI.neg {k : Nat} {x : D} {a b : Rat} (h : IsI k x a b) : IsI k (FR (-b) (-a)) (-b) (-a) := FR_isI h.szL.2.neg h.szL.1.neg (Rat.neg_le_neg h.le)

/-! ### The program -/
theorem INeg_spec (hG : Steady G) {k : Nat} {x : D} {a b : Rat} (hx : IsI k x a b) (hk : k ≤ KB) : Spec Tryz.prog G 39 [x] (FR (-b) (-a)) := by
  have c1 := clean_spec hG hx hk
  have n1 := FNeg_spec hG hx.szL.2.isQ hk
  have n2 := FNeg_spec hG hx.szL.1.isQ hk
  obtain ⟨r, rfl, -, -, -⟩ := hx
  exact Spec.of_run hG Tryz.func39 (ro := []) (m := 40) [.call c1, .call n1, .call n2] (by kernel_rfl)
theorem IAdd_spec (hG : Steady G) {k l : Nat} {x y : D} {a b c d : Rat} (hx : IsI k x a b) (hy : IsI l y c d) (hk : k ≤ KB) (hl : l ≤ KB) : Spec Tryz.prog G 19 [x, y] (FR (a + c) (b + d)) := by
  have c1 := clean_spec hG hx hk
  have c2 := clean_spec hG hy hl
  have n1 := FAdd_spec hG hx.szL.1.isQ hy.szL.1.isQ hk hl
  have n2 := FAdd_spec hG hx.szL.2.isQ hy.szL.2.isQ hk hl
  obtain ⟨r, rfl, -, -, -⟩ := hx
  obtain ⟨p, rfl, -, -, -⟩ := hy
  exact Spec.of_run hG Tryz.func19 (ro := []) (m := 40) [.call c1, .call c2, .call n1, .call n2] (by kernel_rfl)
theorem ISub_spec (hG : Steady G) {k l : Nat} {x y : D} {a b c d : Rat} (hx : IsI k x a b) (hy : IsI l y c d) (hk : k ≤ KB) (hl : l ≤ KB) : Spec Tryz.prog G 34 [x, y] (FR (a - d) (b - c)) := by
  have n1 := INeg_spec hG hy hl
  have s1 := IAdd_spec hG hx hy.neg hk hl
  rw [← Rat.sub_eq_add_neg, ← Rat.sub_eq_add_neg] at s1
  obtain ⟨r, rfl, -, -, -⟩ := hx
  obtain ⟨p, rfl, -, -, -⟩ := hy
  exact Spec.of_run hG Tryz.func34 (ro := [2, 3]) (m := 40) [.call n1, .call s1] (by kernel_rfl)
theorem IHull_spec (hG : Steady G) {k l : Nat} {x y : D} {a b c d : Rat} (hx : IsI k x a b) (hy : IsI l y c d) (hk : k ≤ KB) (hl : l ≤ KB) : Spec Tryz.prog G 35 [x, y] (FR (min a c) (max b d)) := by
  have c1 := clean_spec hG hx hk
  have c2 := clean_spec hG hy hl
  have n1 := FMin_spec hG hx.szL.1.isQ hy.szL.1.isQ hk hl
  have n2 := FMax_spec hG hx.szL.2.isQ hy.szL.2.isQ hk hl
  obtain ⟨r, rfl, -, -, -⟩ := hx
  obtain ⟨p, rfl, -, -, -⟩ := hy
  exact Spec.of_run hG Tryz.func35 (ro := []) (m := 40) [.call c1, .call c2, .call n1, .call n2] (by kernel_rfl)
theorem cmpQ_gt_false {a b : Rat} (h : a ≤ b) : decide (cmpQ a b > 0) = false := decide_eq_false fun hh => by have := cmpQ_le.2 h; omega
theorem cmpQ_gt_true {a b : Rat} (h : ¬ a ≤ b) : decide (cmpQ a b > 0) = true := decide_eq_true (by
  rcases Int.lt_or_le 0 (cmpQ a b) with q | q
  · exact q
  · exact absurd (cmpQ_le.1 q) h)
theorem IMake_ok (hG : Steady G) {k l : Nat} {x y : D} {a b : Rat} (hx : IsQ k x a) (hy : IsQ l y b) (hk : k ≤ KB) (hl : l ≤ KB) (h : a ≤ b) : Spec Tryz.prog G 30 [x, y] (.tup [FR a b, .lit .nilIface]) := by
  have c1 := FCmp_spec hG hx hy hk hl
  have n1 := FAdd0 hG hx hk
  have n2 := FAdd0 hG hy hl
  obtain ⟨r, rfl, -, rfl⟩ := hx
  obtain ⟨q, rfl, -, rfl⟩ := hy
  exact Spec.of_run hG Tryz.func30 (ro := [2, 3]) (m := 40) [.call c1, .eq 9 (eqB (cmpQ_gt_false h)), .call n1, .call n2] (by kernel_rfl)
theorem IMake_bad (hG : Steady G) {k l : Nat} {x y : D} {a b : Rat} (hx : IsQ k x a) (hy : IsQ l y b) (hk : k ≤ KB) (hl : l ≤ KB) (h : ¬ a ≤ b) : Spec Tryz.prog G 30 [x, y] (.tup [FR 0 0, errno 3]) := by
  have c1 := FCmp_spec hG hx hy hk hl
  obtain ⟨r, rfl, -, rfl⟩ := hx
  obtain ⟨q, rfl, -, rfl⟩ := hy
  exact Spec.of_run hG Tryz.func30 (ro := [2, 3]) (m := 40) [.call c1, .eq 9 (eqB (cmpQ_gt_true h))] (by kernel_rfl)
theorem IMeet_ok (hG : Steady G) {k : Nat} {x y : D} {a b c d : Rat} (hx : IsI k x a b) (hy : IsI k y c d) (hk : k ≤ KB) (h : max a c ≤ min b d) : Spec Tryz.prog G 36 [x, y] (.tup [FR (max a c) (min b d), .lit .nilIface]) := by
  have c1 := clean_spec hG hx hk
  have c2 := clean_spec hG hy hk
  have n1 := FMax_spec hG hx.szL.1.isQ hy.szL.1.isQ hk hk
  have n2 := FMin_spec hG hx.szL.2.isQ hy.szL.2.isQ hk hk
  have m1 := IMake_ok hG (hx.szL.1.max hy.szL.1).isQ (hx.szL.2.min hy.szL.2).isQ hk hk h
  obtain ⟨r, rfl, -, -, -⟩ := hx
  obtain ⟨p, rfl, -, -, -⟩ := hy
  exact Spec.of_run hG Tryz.func36 (ro := []) (m := 40) [.call c1, .call c2, .call n1, .call n2, .call m1] (by kernel_rfl)
theorem IMeet_bad (hG : Steady G) {k : Nat} {x y : D} {a b c d : Rat} (hx : IsI k x a b) (hy : IsI k y c d) (hk : k ≤ KB) (h : ¬ max a c ≤ min b d) : Spec Tryz.prog G 36 [x, y] (.tup [FR 0 0, errno 16]) := by
  have c1 := clean_spec hG hx hk
  have c2 := clean_spec hG hy hk
  have n1 := FMax_spec hG hx.szL.1.isQ hy.szL.1.isQ hk hk
  have n2 := FMin_spec hG hx.szL.2.isQ hy.szL.2.isQ hk hk
  have m1 := IMake_bad hG (hx.szL.1.max hy.szL.1).isQ (hx.szL.2.min hy.szL.2).isQ hk hk h
  obtain ⟨r, rfl, -, -, -⟩ := hx
  obtain ⟨p, rfl, -, -, -⟩ := hy
  exact Spec.of_run hG Tryz.func36 (ro := []) (m := 40) [.call c1, .call c2, .call n1, .call n2, .call m1] (by kernel_rfl)
theorem Inside_spec (hG : Steady G) {k l : Nat} {x y : D} {a b c d : Rat} (hx : IsI k x a b) (hy : IsI l y c d) (hk : k ≤ KB) (hl : l ≤ KB) :
    Spec Tryz.prog G 32 [x, y] (bool (decide (c ≤ a ∧ b ≤ d))) := by
  have c1 := clean_spec hG hx hk
  have k1 := Contains_spec hG hy hx.szL.1.isQ hl hk
  have k2 := Contains_spec hG hy hx.szL.2.isQ hl hk
  have hab := hx.le
  obtain ⟨r, rfl, -, -, -⟩ := hx
  obtain ⟨p, rfl, -, -, -⟩ := hy
  by_cases h1 : c ≤ a
  · by_cases h2 : b ≤ d
    · rw [decide_eq_true h1, decide_eq_true (Rat.le_trans hab h2)] at k1
      rw [decide_eq_true (Rat.le_trans h1 hab), decide_eq_true h2] at k2
      rw [decide_eq_true ⟨h1, h2⟩]
      exact Spec.of_run hG Tryz.func32 (ro := [3]) (m := 40) [.call c1, .call k1, .call k2] (by kernel_rfl)
    · have e : decide (c ≤ a ∧ b ≤ d) = false := decide_eq_false fun h => h2 h.2
      rw [e]
      rw [decide_eq_true (Rat.le_trans h1 hab), decide_eq_false h2] at k2
      by_cases h3 : a ≤ d
      · rw [decide_eq_true h1, decide_eq_true h3] at k1
        exact Spec.of_run hG Tryz.func32 (ro := [3]) (m := 40) [.call c1, .call k1, .call k2] (by kernel_rfl)
      · rw [decide_eq_true h1, decide_eq_false h3] at k1
        exact Spec.of_run hG Tryz.func32 (ro := [3]) (m := 40) [.call c1, .call k1] (by kernel_rfl)
  · have e : decide (c ≤ a ∧ b ≤ d) = false := decide_eq_false fun h => h1 h.1
    rw [e]
    rw [decide_eq_false h1] at k1
    exact Spec.of_run hG Tryz.func32 (ro := [3]) (m := 40) [.call c1, .call k1] (by kernel_rfl)
theorem half_spec (hG : Steady G) : Spec Tryz.prog G 103 [] (F (Rat.divInt 1 2)) :=
  Spec.of_run hG Tryz.func103 (ro := []) (m := 40) [.call (FMake_spec hG (i := 1) (j := 2) (by omega) (by omega) (by omega) (by omega) (by omega))] (by kernel_rfl)
theorem sz_half : SzQ 1 (Rat.divInt 1 2) := by unfold SzQ; decide +kernel
theorem Mid_spec (hG : Steady G) {k : Nat} {x : D} {a b : Rat} (hx : IsI k x a b) (hk : k + k + 1 ≤ KB) : Spec Tryz.prog G 56 [x] (F (Rat.divInt 1 2 * (a + b))) := by
  have c1 := clean_spec hG hx (by omega)
  have n1 := FAdd_spec hG hx.szL.1.isQ hx.szL.2.isQ (by omega) (by omega)
  have n2 := FMul_spec hG sz_half.isQ (hx.szL.1.add hx.szL.2).isQ (by omega) hk
  obtain ⟨r, rfl, -, -, -⟩ := hx
  exact Spec.of_run hG Tryz.func56 (ro := []) (m := 40) [.call c1, .call (half_spec hG), .call n1, .call n2] (by kernel_rfl)

/-! ### The reference -/
def Raw.cells (r : Raw) : List D := [bool r.s, rowW r.n, rowW r.d]
theorem span1_spec (hG : Steady G) {k : Nat} {r : Raw} (hr : r.ok k) (hk : k + k < KB) : Spec Tryz.prog G 97 [.row 1 false r.cells] (FR r.q r.q) := by
  have a0 := RFAdd0 hG (Raw.ok.isQ hr) (by omega)
  have n1 := RFMin_spec hG hr.sz.isQ (Raw.ok.isQ hr) hk
  have x1 := RFMax_spec hG hr.sz.isQ (Raw.ok.isQ hr) hk
  rw [rmin_self] at n1
  rw [rmax_self] at x1
  exact Spec.of_run hG Tryz.func97 (ro := []) (m := 60)
    [.call a0, .call a0, .call n1, .call x1] (by kernel_rfl)
theorem span2_spec (hG : Steady G) {k : Nat} {r q : Raw} (hr : r.ok k) (hq : q.ok k) (hk : k + k < KB) : Spec Tryz.prog G 97 [.row 2 false (r.cells ++ q.cells)] (FR (min r.q q.q) (max r.q q.q)) := by
  have a0 := RFAdd0 hG (Raw.ok.isQ hr) (by omega)
  have n1 := RFMin_spec hG hr.sz.isQ (Raw.ok.isQ hr) hk
  have x1 := RFMax_spec hG hr.sz.isQ (Raw.ok.isQ hr) hk
  rw [rmin_self] at n1
  rw [rmax_self] at x1
  have n2 := RFMin_spec hG hr.sz.isQ (Raw.ok.isQ hq) hk
  have x2 := RFMax_spec hG hr.sz.isQ (Raw.ok.isQ hq) hk
  exact Spec.of_run hG Tryz.func97 (ro := []) (m := 60)
    [.call a0, .call a0, .call n1, .call x1, .call n2, .call x2] (by kernel_rfl)
theorem span4_spec (hG : Steady G) {k : Nat} {a b c d : Rat} (ha : SzQ k a) (hb : SzQ k b) (hc : SzQ k c) (hd : SzQ k d) (hk : k + k < KB) :
    Spec Tryz.prog G 97 [.row 4 false (cF a ++ (cF b ++ (cF c ++ cF d)))] (FR (min (min (min a b) c) d) (max (max (max a b) c) d)) := by
  have a0 := RFAdd0 hG ha.isQ (by omega)
  have n1 := RFMin_spec hG ha.isQ ha.isQ hk
  have x1 := RFMax_spec hG ha.isQ ha.isQ hk
  rw [rmin_self] at n1
  rw [rmax_self] at x1
  have n2 := RFMin_spec hG ha.isQ hb.isQ hk
  have x2 := RFMax_spec hG ha.isQ hb.isQ hk
  have n3 := RFMin_spec hG (ha.min hb).isQ hc.isQ hk
  have x3 := RFMax_spec hG (ha.max hb).isQ hc.isQ hk
  have n4 := RFMin_spec hG ((ha.min hb).min hc).isQ hd.isQ hk
  have x4 := RFMax_spec hG ((ha.max hb).max hc).isQ hd.isQ hk
  exact Spec.of_run hG Tryz.func97 (ro := []) (m := 60)
    [.call a0, .call a0, .call n1, .call x1, .call n2, .call x2, .call n3, .call x3, .call n4, .call x4] (by kernel_rfl)
theorem span2F (hG : Steady G) {k : Nat} {a b : Rat} (ha : SzQ k a) (hb : SzQ k b) (hk : k + k < KB) : Spec Tryz.prog G 97 [.row 2 false (cF a ++ cF b)] (FR (min a b) (max a b)) := by
  have h := span2_spec (G := G) hG ha.ok hb.ok hk
  rw [rawOf_q, rawOf_q] at h
  exact h
theorem RINeg_spec (hG : Steady G) {k : Nat} {x : D} {a b : Rat} (hx : IsI k x a b) (hk : k + k < KB) : Spec Tryz.prog G 40 [x] (FR (-b) (-a)) := by
  have c1 := given_spec hG hx hk
  have n1 := RFNeg_spec hG hx.szL.1.isQ (by omega)
  have n2 := RFNeg_spec hG hx.szL.2.isQ (by omega)
  have s := span2F hG hx.szL.1.neg hx.szL.2.neg hk
  have hle := Rat.neg_le_neg hx.le
  rw [rmin_r hle, rmax_l hle] at s
  obtain ⟨r, rfl, -, -, -⟩ := hx
  exact Spec.of_run hG Tryz.func40 (ro := []) (m := 40) [.call c1, .call n1, .call n2, .call s] (by kernel_rfl)
theorem rat_add_le {a b c d : Rat} (h : a ≤ b) (h2 : c ≤ d) : a + c ≤ b + d := by grind
theorem RIAdd_spec (hG : Steady G) {k l : Nat} {x y : D} {a b c d : Rat} (hx : IsI k x a b) (hy : IsI l y c d) (hk : k + l + 1 + (k + l + 1) < KB) : Spec Tryz.prog G 41 [x, y] (FR (a + c) (b + d)) := by
  have c1 := given_spec hG hx (by omega)
  have c2 := given_spec hG hy (by omega)
  have n1 := RFAdd_spec hG hx.szL.1.isQ hy.szL.1.isQ (by omega) (by omega)
  have n2 := RFAdd_spec hG hx.szL.2.isQ hy.szL.2.isQ (by omega) (by omega)
  have s := span2F hG (hx.szL.1.add hy.szL.1) (hx.szL.2.add hy.szL.2) hk
  have hle := rat_add_le hx.le hy.le
  rw [rmin_l hle, rmax_r hle] at s
  obtain ⟨r, rfl, -, -, -⟩ := hx
  obtain ⟨p, rfl, -, -, -⟩ := hy
  exact Spec.of_run hG Tryz.func41 (ro := []) (m := 40) [.call c1, .call c2, .call n1, .call n2, .call s] (by kernel_rfl)
theorem RISub_spec (hG : Steady G) {k l : Nat} {x y : D} {a b c d : Rat} (hx : IsI k x a b) (hy : IsI l y c d) (hk : k + l + 1 + (k + l + 1) < KB) : Spec Tryz.prog G 42 [x, y] (FR (a - d) (b - c)) := by
  have n1 := RINeg_spec hG hy (by omega)
  have s1 := RIAdd_spec hG hx hy.neg hk
  rw [← Rat.sub_eq_add_neg, ← Rat.sub_eq_add_neg] at s1
  obtain ⟨r, rfl, -, -, -⟩ := hx
  obtain ⟨p, rfl, -, -, -⟩ := hy
  exact Spec.of_run hG Tryz.func42 (ro := [2, 3]) (m := 40) [.call n1, .call s1] (by kernel_rfl)
theorem RIMul_spec (hG : Steady G) {k l : Nat} {x y : D} {a b c d : Rat} (hx : IsI k x a b) (hy : IsI l y c d) (hk : k + l + (k + l) < KB) : Spec Tryz.prog G 43 [x, y] (FR (mulLo a b c d) (mulHi a b c d)) := by
  have c1 := given_spec hG hx (by omega)
  have c2 := given_spec hG hy (by omega)
  obtain ⟨sa, sb⟩ := hx.szL
  obtain ⟨sc, sd⟩ := hy.szL
  have m1 := RFMul_spec hG sa.isQ sc.isQ (by omega) (by omega)
  have m2 := RFMul_spec hG sa.isQ sd.isQ (by omega) (by omega)
  have m3 := RFMul_spec hG sb.isQ sc.isQ (by omega) (by omega)
  have m4 := RFMul_spec hG sb.isQ sd.isQ (by omega) (by omega)
  have s := span4_spec hG (sa.mul sc) (sa.mul sd) (sb.mul sc) (sb.mul sd) hk
  obtain ⟨r, rfl, -, -, -⟩ := hx
  obtain ⟨p, rfl, -, -, -⟩ := hy
  exact Spec.of_run hG Tryz.func43 (ro := []) (m := 40) [.call c1, .call c2, .call m1, .call m2, .call m3, .call m4, .call s] (by kernel_rfl)
theorem RContains_spec (hG : Steady G) {k l : Nat} {x y : D} {a b q : Rat} (hx : IsI k x a b) (hy : IsQ l y q) (hk : k + k + l < KB) :
    Spec Tryz.prog G 51 [x, y] (bool (decide (a ≤ q) && decide (q ≤ b))) := by
  have c := given_spec hG hx (by omega)
  have c1 := RFCmp_spec hG hx.szL.1.isQ hy (by omega)
  have c2 := RFCmp_spec hG hy hx.szL.2.isQ (by omega)
  obtain ⟨r, rfl, -, -, -⟩ := hx
  obtain ⟨p, rfl, -, -⟩ := hy
  by_cases h : a ≤ q
  · rw [decide_eq_true h]
    exact Spec.of_run hG Tryz.func51 (ro := [3]) (m := 40) [.call c, .call c1, .eq 11 (eqB ((le_dec a q).trans (decide_eq_true h))), .call c2, .eq 17 (eqB (le_dec q b))] (by kernel_rfl)
  · rw [decide_eq_false h]
    exact Spec.of_run hG Tryz.func51 (ro := [3]) (m := 40) [.call c, .call c1, .eq 11 (eqB ((le_dec a q).trans (decide_eq_false h)))] (by kernel_rfl)
theorem RIDiv_zero (hG : Steady G) {k l : Nat} {x y : D} {a b c d : Rat} (hx : IsI k x a b) (hy : IsI l y c d) (hl : l + l + 1 < KB) (hc : c ≤ 0 ∧ 0 ≤ d) :
    Spec Tryz.prog G 37 [x, y] (.tup [FR 0 0, int 8]) := by
  have c1 := given_spec hG hy (by omega)
  have c2 := RContains_spec hG hy.isI isQ_zero hl
  rw [decide_eq_true hc.1, decide_eq_true hc.2] at c2
  obtain ⟨r, rfl, -, -, -⟩ := hx
  obtain ⟨p, rfl, -, -, -⟩ := hy
  exact Spec.of_run hG Tryz.func37 (ro := [2]) (m := 40) [.call c1, .call c2] (by kernel_rfl)
theorem RIDiv_spec (hG : Steady G) {k l : Nat} {x y : D} {a b c d : Rat} (hx : IsI k x a b) (hy : IsI l y c d) (hk : k + (l + 1) + (k + (l + 1)) < KB) (hc : ¬ (c ≤ 0 ∧ 0 ≤ d)) :
    Spec Tryz.prog G 37 [x, y] (.tup [FR (mulLo a b (((1 : Int) : Rat) / d) (((1 : Int) : Rat) / c)) (mulHi a b (((1 : Int) : Rat) / d) (((1 : Int) : Rat) / c)), int 0]) := by
  have kb := KB_eq
  have c1 := given_spec hG hy (by omega)
  have c2 := RContains_spec hG hy.isI isQ_zero (by omega)
  have e2 : (decide (c ≤ 0) && decide (0 ≤ d)) = false := by rw [← Bool.decide_and]; exact decide_eq_false hc
  rw [e2] at c2
  obtain ⟨sc, sd⟩ := hy.szL
  obtain ⟨n1, n2, hle⟩ := one_div_pos_le hy.le hc
  have o1 := RFOf_spec (G := G) hG (i := 1) (by omega) (by omega)
  have s1 := sz_one (k := 1) (by omega)
  have d1 := RFDiv_spec hG s1.isQ sc.isQ (by omega) (by omega) n1
  have d2 := RFDiv_spec hG s1.isQ sd.isQ (by omega) (by omega) n2
  have q1 := (s1.div sc).mono (l := l + 1) (by omega)
  have q2 := (s1.div sd).mono (l := l + 1) (by omega)
  have sp := span2F hG q1 q2 (by omega)
  rw [rmin_r hle, rmax_l hle] at sp
  have m := RIMul_spec hG hx (FR_isI q2 q1 hle) hk
  obtain ⟨r, rfl, -, -, -⟩ := hx
  obtain ⟨p, rfl, -, -, -⟩ := hy
  exact Spec.of_run hG Tryz.func37 (ro := [2]) (m := 40) [.call c1, .call c2, .call o1, .call d1, .call o1, .call d2, .call sp, .call m] (by kernel_rfl)
theorem RIHull_spec (hG : Steady G) {k : Nat} {x y : D} {a b c d : Rat} (hx : IsI k x a b) (hy : IsI k y c d) (hk : k + k < KB) : Spec Tryz.prog G 44 [x, y] (FR (min a c) (max b d)) := by
  have c1 := given_spec hG hx hk
  have c2 := given_spec hG hy hk
  have s := span4_spec hG hx.szL.1 hx.szL.2 hy.szL.1 hy.szL.2 hk
  have e1 : min (min (min a b) c) d = min a c := by
    rw [rmin_l hx.le]
    have h1 := hy.le
    refine rmin_l ?_
    rw [Rat.min_def]
    split
    · rename_i h; exact Rat.le_trans h h1
    · exact h1
  have e2 : max (max (max a b) c) d = max b d := by
    rw [rmax_r hx.le]
    have h1 := hy.le
    simp only [Rat.max_def]
    grind
  rw [e1, e2] at s
  obtain ⟨r, rfl, -, -, -⟩ := hx
  obtain ⟨p, rfl, -, -, -⟩ := hy
  exact Spec.of_run hG Tryz.func44 (ro := []) (m := 40) [.call c1, .call c2, .call s] (by kernel_rfl)
theorem RIMeet_ok (hG : Steady G) {k : Nat} {x y : D} {a b c d : Rat} (hx : IsI k x a b) (hy : IsI k y c d) (hk : k + k < KB) (h : max a c ≤ min b d) : Spec Tryz.prog G 38 [x, y] (.tup [FR (max a c) (min b d), int 0]) := by
  have c1 := given_spec hG hx hk
  have c2 := given_spec hG hy hk
  have n1 := RFMax_spec hG hx.szL.1.isQ hy.szL.1.isQ hk
  have n2 := RFMin_spec hG hx.szL.2.isQ hy.szL.2.isQ hk
  have m1 := RFCmp_spec hG (hx.szL.1.max hy.szL.1).isQ (hx.szL.2.min hy.szL.2).isQ hk
  obtain ⟨r, rfl, -, -, -⟩ := hx
  obtain ⟨p, rfl, -, -, -⟩ := hy
  exact Spec.of_run hG Tryz.func38 (ro := []) (m := 40) [.call c1, .call c2, .call n1, .call n2, .call m1, .eq 25 (eqB (cmpQ_gt_false h))] (by kernel_rfl)
theorem RIMeet_bad (hG : Steady G) {k : Nat} {x y : D} {a b c d : Rat} (hx : IsI k x a b) (hy : IsI k y c d) (hk : k + k < KB) (h : ¬ max a c ≤ min b d) : Spec Tryz.prog G 38 [x, y] (.tup [FR 0 0, int 16]) := by
  have c1 := given_spec hG hx hk
  have c2 := given_spec hG hy hk
  have n1 := RFMax_spec hG hx.szL.1.isQ hy.szL.1.isQ hk
  have n2 := RFMin_spec hG hx.szL.2.isQ hy.szL.2.isQ hk
  have m1 := RFCmp_spec hG (hx.szL.1.max hy.szL.1).isQ (hx.szL.2.min hy.szL.2).isQ hk
  obtain ⟨r, rfl, -, -, -⟩ := hx
  obtain ⟨p, rfl, -, -, -⟩ := hy
  exact Spec.of_run hG Tryz.func38 (ro := []) (m := 40) [.call c1, .call c2, .call n1, .call n2, .call m1, .eq 25 (eqB (cmpQ_gt_true h))] (by kernel_rfl)
end Lw
