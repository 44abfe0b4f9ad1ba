/- The program's norms, signs and inverses of numbers of towers, run; accepted towers. Condition: the numbers are of bounded size. -/
import Derived.Test.YtmcpfihkambgnaaGreatLwNh
namespace Lw
namespace Tw
open Go Go.RowKit Go.Proofs Fld
variable {G : World → Prop}

theorem Bt.pB {n : Nat} {a : List Rat} (h : Bt n a) (hn : n ≤ NB) : SzL KB a := h.fit hn
theorem minus_specB (hG : Steady G) {a : List Rat} {n : Nat} (h : Bt n a) (hn : n ≤ NB) (hl : a.length ≤ 32) : Spec Tryz.prog G 64 [NumD a] (NumD (minusL a)) :=
  minus_spec hG (h.fit hn) (Nat.le_refl _) (by omega)
theorem plus_specB (hG : Steady G) {a b : List Rat} {m n : Nat} (ha : Bt m a) (hb : Bt n b) (hm : m ≤ NB) (hn : n ≤ NB) (hl : a.length ≤ 32) (hl' : b.length ≤ 32) : Spec Tryz.prog G 119 [NumD a, NumD b] (NumD (plusL a b)) :=
  plus_specT hG (ha.fit hm) (hb.fit hn) KB_pos KB_pos (Nat.le_refl _) (Nat.le_refl _) (by omega)

/-! ### norm -/
theorem norm_run (hG : Steady G) {t : Tow} {a xx yy yyd r : List Rat} {j : Nat} (ha : a.length = 2 ^ (j + 1)) (hj : j ≤ 4) (hjt : j < t.length)
    (c1 : Spec Tryz.prog G 59 [TowD t, NumD (a.take (2 ^ j)), NumD (a.take (2 ^ j))] (NumD xx)) (c2 : Spec Tryz.prog G 59 [TowD t, NumD (a.drop (2 ^ j)), NumD (a.drop (2 ^ j))] (NumD yy))
    (c3 : Spec Tryz.prog G 59 [TowD t, NumD yy, NumD (t.getD j [])] (NumD yyd)) (c4 : Spec Tryz.prog G 64 [NumD yyd] (NumD (minusL yyd)))
    (c5 : Spec Tryz.prog G 119 [NumD xx, NumD (minusL yyd)] (NumD r)) :
    Spec Tryz.prog G 135 [TowD t, NumD a] (NumD r) := by
  have pj := pow_pos' j
  have bj := pow_le30 (j := j + 1) (by omega)
  have e2 : 2 ^ (j + 1) = 2 ^ j + 2 ^ j := by rw [Nat.pow_succ]; omega
  have e13 := sl_lo (a := a) (u := 2 ^ j) (by omega)
  have e16 := sl_hi (a := a) (l := 2 ^ j) (by omega : 2 ^ j ≤ 2 ^ (j + 1)) ha
  have lv := level_spec (G := G) hG (k := j + 1) (by omega) (a.flatMap cF)
  rw [numN_eq ha]
  exact Spec.of_run hG Tryz.func135 (ro := [2]) (m := 60)
    [.eq 10 (eqS (half_2 (j := j) (by omega))), .prop (sl_need0 (u := 2 ^ j) (N := 2 ^ (j + 1)) (by omega)), .eq 13 e13, .prop (sl_need (l := 2 ^ j) (u := 2 ^ (j + 1)) (N := 2 ^ (j + 1)) (by omega) (by omega)), .eq 16 e16,
     .call c1, .call c2, .call lv, .eq 30 (eqS (pred_ix (j := j) (by omega))), .prop (row_need hjt), .prop (row_load hjt), .eq 32 (row_at hjt), .call c3, .call c4, .call c5] (by kernel_rfl)
theorem norm_spec (hG : Steady G) {t : Tow} {δ : Nat} (hT : BtT δ t) {k j : Nat} {a : List Rat} {n : Nat} (hk : k ≤ 4) (hkt : k ≤ t.length) (hS : ShT k t) (hj : j ≤ k) (hjt : j < t.length) (hd : (t.getD j []).length = 2 ^ j) (ha : a.length = 2 ^ (j + 1)) (hb : Bt n a)
    (hN : n + n + mkk (k + 1) * δ + ck (k + 1) ≤ NB) : Spec Tryz.prog G 135 [TowD t, NumD a] (NumD (normL t k a)) := by
  have e2 : 2 ^ (j + 1) = 2 ^ j + 2 ^ j := by rw [Nat.pow_succ]; omega
  have eN : mkk (k + 1) * δ = mkk k * δ + mkk k * δ + δ := by simp only [mkk]; rw [Nat.succ_mul, Nat.mul_assoc]; omega
  have eC : ck (k + 1) = 2 * ck k + 2 := rfl
  have hn : a.length / 2 = 2 ^ j := by rw [ha, half_pow]
  have sx : Sh k (a.take (2 ^ j)) := .inr ⟨j, hj, by rw [List.length_take]; omega⟩
  have sy : Sh k (a.drop (2 ^ j)) := .inr ⟨j, hj, by rw [List.length_drop]; omega⟩
  have sd : Sh k (t.getD j []) := .inr ⟨j, hj, hd⟩
  have syy := (tmsL_sh k _ _ hS sy sy).1
  have byy := (hb.drop (2 ^ j)).times hT (hb.drop (2 ^ j)) k
  have bxx := (hb.take (2 ^ j)).times hT (hb.take (2 ^ j)) k
  have byd := byy.times hT (hT.root j) k
  have l1 := len64 (tmsL_sh k _ _ hS sx sx).1 (by omega)
  have l2 := len64 (tmsL_sh k _ _ hS syy sd).1 (by omega)
  unfold normL
  simp only [hn, log2_pow]
  exact norm_run hG ha (by omega) hjt
    (times_spec hG hT k _ _ n n (by omega) hkt hS sx sx (hb.take _) (hb.take _) (by omega))
    (times_spec hG hT k _ _ n n (by omega) hkt hS sy sy (hb.drop _) (hb.drop _) (by omega))
    (times_spec hG hT k _ _ _ δ (by omega) hkt hS syy sd byy (hT.root j) (by omega))
    (minus_specB hG byd (by omega) l2)
    (plus_specB hG bxx byd.minus (by omega) (by omega) l1 (by rw [minusL_len]; exact l2))

/-! ### sign -/
theorem sgn_abs (q : Rat) : -1 ≤ sgn q ∧ sgn q ≤ 1 := by
  rcases sgn_cases q with ⟨_, e⟩ | ⟨_, e⟩ | ⟨_, e⟩ <;> omega
theorem mul_abs {x y : Int} (h : -1 ≤ x ∧ x ≤ 1) (h' : -1 ≤ y ∧ y ≤ 1) : -1 ≤ x * y ∧ x * y ≤ 1 := by
  have : x = -1 ∨ x = 0 ∨ x = 1 := by omega
  rcases this with rfl | rfl | rfl <;> omega
theorem signL_abs (t : Tow) : ∀ (k : Nat) (a : List Rat), -1 ≤ signL t k a ∧ signL t k a ≤ 1
  | 0, a => by unfold signL; exact sgn_abs _
  | k + 1, a => by
    unfold signL
    simp only
    split
    · omega
    · split
      · exact sgn_abs _
      · split
        · exact signL_abs t k _
        · split
          · exact signL_abs t k _
          · split
            · exact signL_abs t k _
            · exact mul_abs (signL_abs t k _) (signL_abs t k _)
theorem wrap1 {x : Int} (h : -1 ≤ x ∧ x ≤ 1) : IntKind.wrap .i64 x = x := wrapS (by omega) (by omega)
theorem beqI {x y : Int} (h : x = y) : (x == y) = true := by simpa using h
theorem bneI {x y : Int} (h : x ≠ y) : (x == y) = false := by simpa using h
theorem sign_nil (hG : Steady G) {t : Tow} {a : List Rat} (c : Spec Tryz.prog G 118 [NumD a] (NumD [])) : Spec Tryz.prog G 65 [TowD t, NumD a] (int 0) :=
  Spec.of_run hG Tryz.func65 (ro := [2]) (m := 60) [.call c] (by kernel_rfl)
theorem sign_one (hG : Steady G) {t : Tow} {a : List Rat} {x : Rat} (hx : SzQ KB x) (c : Spec Tryz.prog G 118 [NumD a] (NumD [x])) : Spec Tryz.prog G 65 [TowD t, NumD a] (int (sgn x)) :=
  Spec.of_run hG Tryz.func65 (ro := [2]) (m := 60) [.call c, .call (FSign_spec hG hx.isQ (Nat.le_refl _))] (by kernel_rfl)
theorem sign_run (hG : Steady G) {t : Tow} {a b N : List Rat} {j : Nat} {X Y Z W : Int} (c : Spec Tryz.prog G 118 [NumD a] (NumD b)) (hb : b.length = 2 ^ (j + 1)) (hj : j ≤ 4) (hjt : j < t.length)
    (c1 : Spec Tryz.prog G 65 [TowD t, NumD (b.take (2 ^ j))] (int X)) (c2 : Spec Tryz.prog G 65 [TowD t, NumD (b.drop (2 ^ j))] (int Y)) (c3 : Spec Tryz.prog G 65 [TowD t, NumD (t.getD j [])] (int Z))
    (c4 : Spec Tryz.prog G 135 [TowD t, NumD b] (NumD N)) (c5 : Spec Tryz.prog G 65 [TowD t, NumD N] (int W)) (hX : -1 ≤ X ∧ X ≤ 1) (hW : -1 ≤ W ∧ W ≤ 1) :
    Spec Tryz.prog G 65 [TowD t, NumD a] (int (if Z = 0 then X else if X = Y ∨ Y = 0 then X else if X = 0 then Y else X * W)) := by
  have pj := pow_pos' j
  have bj := pow_le30 (j := j + 1) (by omega)
  have e2 : 2 ^ (j + 1) = 2 ^ j + 2 ^ j := by rw [Nat.pow_succ]; omega
  have e26 := sl_lo (a := b) (u := 2 ^ j) (by omega)
  have e31 := sl_hi (a := b) (l := 2 ^ j) (by omega : 2 ^ j ≤ 2 ^ (j + 1)) hb
  have lv := level_spec (G := G) hG (k := j + 1) (by omega) (b.flatMap cF)
  rw [numN_eq hb] at c c4
  have p1 := sl_need0 (u := 2 ^ j) (N := 2 ^ (j + 1)) (by omega)
  have p2 := sl_need (l := 2 ^ j) (u := 2 ^ (j + 1)) (N := 2 ^ (j + 1)) (by omega) (by omega)
  have h22 := half_2 (j := j) (by omega)
  have h38 := pred_ix (j := j) (by omega)
  by_cases hZ : Z = 0
  · rw [if_pos hZ]
    exact Spec.of_run hG Tryz.func65 (ro := [2]) (m := 60)
      [.call c, .eq 12 (eqB (ne0 j)), .eq 15 (eqB (ne1 j)), .eq 22 (eqS h22), .eq 23 (Eq.refl (TowD t)), .prop p1, .eq 26 e26, .call c1, .eq 28 (Eq.refl (TowD t)), .prop p2, .eq 31 e31, .call c2, .call lv, .eq 38 (eqS h38), .prop (row_need hjt), .prop (row_load hjt), .eq 40 (row_at hjt), .call c3, .eq 42 (eqB (beqI hZ))] (by kernel_rfl)
  · rw [if_neg hZ]
    by_cases h1 : X = Y
    · rw [if_pos (.inl h1)]
      exact Spec.of_run hG Tryz.func65 (ro := [2]) (m := 60)
        [.call c, .eq 12 (eqB (ne0 j)), .eq 15 (eqB (ne1 j)), .eq 22 (eqS h22), .eq 23 (Eq.refl (TowD t)), .prop p1, .eq 26 e26, .call c1, .eq 28 (Eq.refl (TowD t)), .prop p2, .eq 31 e31, .call c2, .call lv, .eq 38 (eqS h38), .prop (row_need hjt), .prop (row_load hjt), .eq 40 (row_at hjt), .call c3, .eq 42 (eqB (bneI hZ)), .eq 47 (eqB (beqI h1))] (by kernel_rfl)
    · by_cases h2 : Y = 0
      · rw [if_pos (.inr h2)]
        exact Spec.of_run hG Tryz.func65 (ro := [2]) (m := 60)
          [.call c, .eq 12 (eqB (ne0 j)), .eq 15 (eqB (ne1 j)), .eq 22 (eqS h22), .eq 23 (Eq.refl (TowD t)), .prop p1, .eq 26 e26, .call c1, .eq 28 (Eq.refl (TowD t)), .prop p2, .eq 31 e31, .call c2, .call lv, .eq 38 (eqS h38), .prop (row_need hjt), .prop (row_load hjt), .eq 40 (row_at hjt), .call c3, .eq 42 (eqB (bneI hZ)), .eq 47 (eqB (bneI h1)), .eq 50 (eqB (beqI h2))] (by kernel_rfl)
      · rw [if_neg (by rintro (h | h); exact h1 h; exact h2 h)]
        by_cases h3 : X = 0
        · rw [if_pos h3]
          exact Spec.of_run hG Tryz.func65 (ro := [2]) (m := 60)
            [.call c, .eq 12 (eqB (ne0 j)), .eq 15 (eqB (ne1 j)), .eq 22 (eqS h22), .eq 23 (Eq.refl (TowD t)), .prop p1, .eq 26 e26, .call c1, .eq 28 (Eq.refl (TowD t)), .prop p2, .eq 31 e31, .call c2, .call lv, .eq 38 (eqS h38), .prop (row_need hjt), .prop (row_load hjt), .eq 40 (row_at hjt), .call c3, .eq 42 (eqB (bneI hZ)), .eq 47 (eqB (bneI h1)), .eq 50 (eqB (bneI h2)), .eq 55 (eqB (beqI h3))] (by kernel_rfl)
        · rw [if_neg h3]
          exact Spec.of_run hG Tryz.func65 (ro := [2]) (m := 60)
            [.call c, .eq 12 (eqB (ne0 j)), .eq 15 (eqB (ne1 j)), .eq 22 (eqS h22), .eq 23 (Eq.refl (TowD t)), .prop p1, .eq 26 e26, .call c1, .eq 28 (Eq.refl (TowD t)), .prop p2, .eq 31 e31, .call c2, .call lv, .eq 38 (eqS h38), .prop (row_need hjt), .prop (row_load hjt), .eq 40 (row_at hjt), .call c3, .eq 42 (eqB (bneI hZ)), .eq 47 (eqB (bneI h1)), .eq 50 (eqB (bneI h2)), .eq 55 (eqB (bneI h3)),
             .call c4, .call c5, .eq 63 (eqS (wrap1 (mul_abs hX hW)))] (by kernel_rfl)
theorem short_of {k : Nat} {a : List Rat} (hs : Sh k a) : shortL a = [] ∨ (∃ x, shortL a = [x]) ∨ ∃ j, j + 1 ≤ k ∧ (shortL a).length = 2 ^ (j + 1) := by
  rcases shortL_sh hs with h | ⟨j, h1, h2⟩
  · exact .inl h
  · cases j with
    | zero => exact .inr (.inl (List.length_eq_one_iff.1 h2))
    | succ j => exact .inr (.inr ⟨j, h1, h2⟩)
theorem sign_spec (hG : Steady G) {t : Tow} {δ : Nat} (hT : BtT δ t) : ∀ (k : Nat) (a : List Rat) (n : Nat), k ≤ 5 → k ≤ t.length → ShT k t → Sh k a → Bt n a → sb δ k n ≤ NB →
    Spec Tryz.prog G 65 [TowD t, NumD a] (int (signL t k a))
  | 0, a, n, _, _, _, sa, ha, hN => by
    have la := ha.fit hN
    have c := Short_spec (G := G) hG sa (by omega) la
    unfold signL
    rcases short_of sa with h | ⟨x, h⟩ | ⟨j, h, -⟩
    · have e : a.getD 0 0 = 0 := by rw [← shortL_getD sa, h]; rfl
      rw [e]
      rw [h] at c
      exact sign_nil hG c
    · have e : a.getD 0 0 = x := by rw [← shortL_getD sa, h]; rfl
      rw [e]
      rw [h] at c
      exact sign_one hG ((ha.short sa).fit hN x (by rw [h]; simp)) c
    · omega
  | k + 1, a, n, hk, hkt, hS, sa, ha, hN => by
    have hS' : ShT k t := fun j hj => hS j (by omega)
    have hn := sb_ge δ (k + 1) n
    have hn0 := sb_ge δ k (n + n + mkk (k + 1) * δ + ck (k + 1))
    have eS : sb δ (k + 1) n = sb δ k (n + n + mkk (k + 1) * δ + ck (k + 1)) := rfl
    have hup := sb_up δ k n
    have hrt := sb_root δ k n
    have la := ha.fit (by omega)
    have c := Short_spec (G := G) hG sa (by omega) la
    have hb := ha.short sa
    unfold signL
    simp only
    rcases short_of sa with h | ⟨x, h⟩ | ⟨j, hj, h⟩
    · rw [h] at c ⊢
      rw [if_pos (show ([] : List Rat).length = 0 from rfl)]
      exact sign_nil hG c
    · rw [if_neg (by rw [h]; simp), if_pos (by rw [h]; rfl)]
      have lx := hb.fit (by omega) x (by rw [h]; simp)
      rw [h] at c ⊢
      exact sign_one hG lx c
    · have e2 : 2 ^ (j + 1) = 2 ^ j + 2 ^ j := by rw [Nat.pow_succ]; omega
      have pj := pow_pos' j
      generalize shortL a = b at h c hb
      have hn2 : b.length / 2 = 2 ^ j := by rw [h, half_pow]
      rw [if_neg (by omega), if_neg (by omega), hn2, log2_pow]
      have sx : Sh k (b.take (2 ^ j)) := .inr ⟨j, by omega, by rw [List.length_take]; omega⟩
      have sy : Sh k (b.drop (2 ^ j)) := .inr ⟨j, by omega, by rw [List.length_drop]; omega⟩
      have sd : Sh k (t.getD j []) := .inr ⟨j, by omega, hS j (by omega)⟩
      exact sign_run hG c h (by omega) (by omega)
        (sign_spec hG hT k _ n (by omega) (by omega) hS' sx (hb.take _) (by omega))
        (sign_spec hG hT k _ n (by omega) (by omega) hS' sy (hb.drop _) (by omega))
        (sign_spec hG hT k _ δ (by omega) (by omega) hS' sd (hT.root j) (by omega))
        (norm_spec hG hT (k := k) (j := j) (by omega) (by omega) hS' (by omega) (by omega) (hS j (by omega)) h hb (by omega))
        (sign_spec hG hT k _ _ (by omega) (by omega) hS' (normL_sh hS (by omega) h k (by omega) (by omega)) (hb.norm hT k) (by omega))
        (signL_abs t k _) (signL_abs t k _)

/-! ### inverse -/
theorem inv_one (hG : Steady G) {t : Tow} {a : List Rat} {x : Rat} (hx : SzQ KB x) (h0 : x ≠ 0) (c : Spec Tryz.prog G 118 [NumD a] (NumD [x])) : Spec Tryz.prog G 319 [TowD t, NumD a] (NumD [x⁻¹]) := by
  have d := FDiv_spec (G := G) hG (sz_one (k := 1) (by omega)).isQ hx.isQ (by rw [KB_eq]; omega) (Nat.le_refl _) h0
  have e : ((1 : Int) : Rat) / x = x⁻¹ := by rw [Rat.div_def]; exact Rat.one_mul _
  rw [e] at d
  exact Spec.of_run hG Tryz.func319 (ro := [2]) (m := 60) [.call c, .call (FOf_spec hG (i := 1) (by omega) (by omega)), .call d] (by kernel_rfl)
theorem inv_zero (hG : Steady G) {t : Tow} {a b m r : List Rat} {j : Nat} (c : Spec Tryz.prog G 118 [NumD a] (NumD b)) (hb : b.length = 2 ^ (j + 1)) (hj : j ≤ 4)
    (c1 : Spec Tryz.prog G 135 [TowD t, NumD b] (NumD m)) (c2 : Spec Tryz.prog G 65 [TowD t, NumD m] (int 0))
    (c3 : Spec Tryz.prog G 119 [NumD (b.take (2 ^ j)), NumD (b.take (2 ^ j))] (NumD (plusL (b.take (2 ^ j)) (b.take (2 ^ j))))) (c4 : Spec Tryz.prog G 319 [TowD t, NumD (plusL (b.take (2 ^ j)) (b.take (2 ^ j)))] (NumD r)) :
    Spec Tryz.prog G 319 [TowD t, NumD a] (NumD r) := by
  have pj := pow_pos' j
  have e2 : 2 ^ (j + 1) = 2 ^ j + 2 ^ j := by rw [Nat.pow_succ]; omega
  have e37 := sl_lo (a := b) (u := 2 ^ j) (by omega)
  rw [numN_eq hb] at c c1
  have p1 := sl_need0 (u := 2 ^ j) (N := 2 ^ (j + 1)) (by omega)
  have h22 := half_2 (j := j) (by omega)
  exact Spec.of_run hG Tryz.func319 (ro := [2]) (m := 60)
    [.call c, .eq 13 (eqB (ne1 j)), .eq 26 (eqS h22), .call c1, .call c2, .eq 34 (Eq.refl (TowD t)), .prop p1, .eq 37 e37, .prop p1, .eq 40 e37, .call c3, .call c4] (by kernel_rfl)
theorem inv_run (hG : Steady G) {t : Tow} {a b m r im : List Rat} {j : Nat} {Z : Int} (c : Spec Tryz.prog G 118 [NumD a] (NumD b)) (hb : b.length = 2 ^ (j + 1)) (hj : j ≤ 4) (hZ : Z ≠ 0)
    (c1 : Spec Tryz.prog G 135 [TowD t, NumD b] (NumD m)) (c2 : Spec Tryz.prog G 65 [TowD t, NumD m] (int Z))
    (c3 : Spec Tryz.prog G 64 [NumD (b.drop (2 ^ j))] (NumD (minusL (b.drop (2 ^ j))))) (c4 : Spec Tryz.prog G 319 [TowD t, NumD m] (NumD im))
    (c5 : Spec Tryz.prog G 59 [TowD t, NumD (joinL (b.take (2 ^ j)) (minusL (b.drop (2 ^ j))) (2 ^ j)), NumD im] (NumD r)) :
    Spec Tryz.prog G 319 [TowD t, NumD a] (NumD r) := by
  have pj := pow_pos' j
  have bj := pow_le30 (j := j + 1) (by omega)
  have e2 : 2 ^ (j + 1) = 2 ^ j + 2 ^ j := by rw [Nat.pow_succ]; omega
  have e46 := sl_lo (a := b) (u := 2 ^ j) (by omega)
  have e49 := sl_hi (a := b) (l := 2 ^ j) (by omega : 2 ^ j ≤ 2 ^ (j + 1)) hb
  have c6 := join_spec (G := G) hG (b.take (2 ^ j)) (minusL (b.drop (2 ^ j))) pj (by omega : 2 ^ j ≤ 1073741824)
  rw [numN_eq hb] at c c1
  have p1 := sl_need0 (u := 2 ^ j) (N := 2 ^ (j + 1)) (by omega)
  have p2 := sl_need (l := 2 ^ j) (u := 2 ^ (j + 1)) (N := 2 ^ (j + 1)) (by omega) (by omega)
  have h22 := half_2 (j := j) (by omega)
  exact Spec.of_run hG Tryz.func319 (ro := [2]) (m := 60)
    [.call c, .eq 13 (eqB (ne1 j)), .eq 26 (eqS h22), .call c1, .call c2, .eq 33 (eqB (bneI hZ)), .eq 43 (Eq.refl (TowD t)), .prop p1, .eq 46 e46, .prop p2, .eq 49 e49, .call c3, .call c6, .call c4, .call c5] (by kernel_rfl)
section model
open Rng OFd
variable {K : Type} [OFd K] (ι : Hom Rat K) (s : Nat → K)
theorem inv_step {t : Tow} {k j : Nat} {b : List Rat} (hT : ShT (k + 1) t) (hM : Model ι s t (k + 1)) (hj1 : j ≤ k) (hj2 : b.length = 2 ^ (j + 1)) (hne : lv ι s (k + 1) b ≠ 0) :
    (signL t k (normL t k b) = 0 → lv ι s k (plusL (b.take (2 ^ j)) (b.take (2 ^ j))) ≠ 0) ∧ (signL t k (normL t k b) ≠ 0 → lv ι s k (normL t k b) ≠ 0) := by
  have hT' : ShT k t := fun j hj => hT j (by omega)
  have hM' : Model ι s t k := ⟨fun j hj => hM.nn j (by omega), fun j hj => hM.sq j (by omega)⟩
  have e2 : 2 ^ (j + 1) = 2 ^ j + 2 ^ j := by rw [Nat.pow_succ]; omega
  have pj' := pow_pos' j
  have hn : b.length / 2 = 2 ^ j := by rw [hj2, half_pow]
  have low : ∀ l : List Rat, l.length ≤ 2 ^ j → lv ι s k l = lv ι s j l := fun l hl => lv_up ι s hl (by omega)
  have sx : Sh k (b.take (2 ^ j)) := .inr ⟨j, by omega, by rw [List.length_take]; omega⟩
  have sy : Sh k (b.drop (2 ^ j)) := .inr ⟨j, by omega, by rw [List.length_drop]; omega⟩
  have hd := hT j (by omega)
  have sd : Sh k (t.getD j []) := .inr ⟨j, by omega, hd⟩
  have vb : lv ι s (k + 1) b = lv ι s k (b.take (2 ^ j)) + lv ι s k (b.drop (2 ^ j)) * s j := by
    rw [lv_up ι s (j := j + 1) (by omega) (by omega), lv_half ι s b, low _ (by rw [List.length_take]; omega), low _ (by rw [List.length_drop]; omega)]
  have sq : s j * s j = lv ι s k (t.getD j []) := by rw [hM.sq j (by omega), low _ (by omega)]
  obtain ⟨s1, v1, -⟩ := tmsL_ok ι s k _ _ hT' hM' sx sx
  obtain ⟨s2, v2, -⟩ := tmsL_ok ι s k _ _ hT' hM' sy sy
  obtain ⟨s3, v3, -⟩ := tmsL_ok ι s k _ _ hT' hM' s2 sd
  have hnk : Sh k (normL t k b) ∧ lv ι s k (normL t k b) = lv ι s k (b.take (2 ^ j)) * lv ι s k (b.take (2 ^ j)) - lv ι s k (b.drop (2 ^ j)) * lv ι s k (b.drop (2 ^ j)) * lv ι s k (t.getD j []) := by
    unfold normL
    simp only [hn, log2_pow]
    refine ⟨s1.plus s3.minus, ?_⟩
    rw [lv_plus, lv_minus, v1, v3, v2, sub_def']
  rw [signL_ok ι s k _ hT' hM' hnk.1]
  rw [vb] at hne
  rw [← sq] at hnk
  refine ⟨fun hz => ?_, fun hz e => hz (sg_eq_zero.2 e)⟩
  rw [sg_eq_zero, hnk.2] at hz
  have hp : (lv ι s k (b.take (2 ^ j)) + lv ι s k (b.drop (2 ^ j)) * s j) * (lv ι s k (b.take (2 ^ j)) - lv ι s k (b.drop (2 ^ j)) * s j) = 0 := by
    rw [← hz]; exact rg [lv ι s k (b.take (2 ^ j)), lv ι s k (b.drop (2 ^ j)), s j] (by kernel_rfl)
  have he := sub_zero_iff.1 ((mul_eq_zero hp).resolve_left hne)
  rw [lv_plus]
  intro h0
  refine hne ?_
  rw [← he]; exact h0
theorem inverse_spec (hG : Steady G) {t : Tow} {δ : Nat} (hT : BtT δ t) : ∀ (k : Nat) (a : List Rat) (n : Nat), k ≤ 5 → k ≤ t.length → ShT k t → Model ι s t k → Sh k a → Bt n a → lv ι s k a ≠ 0 → sb δ k n ≤ NB → ib δ k n ≤ NB →
    Spec Tryz.prog G 319 [TowD t, NumD a] (NumD (invL t k a))
  | 0, a, n, _, _, _, _, sa, ha, hne, hN, hI => by
    have hn := ib_ge δ 0 n
    have la := ha.fit (by omega)
    have c := Short_spec (G := G) hG sa (by omega) la
    have e0 : lv ι s 0 a = ι.φ (a.getD 0 0) := rfl
    have h0 : a.getD 0 0 ≠ 0 := fun h => hne (by rw [e0, h, ι.zero])
    unfold invL
    rcases short_of sa with h | ⟨x, h⟩ | ⟨j, h, -⟩
    · exfalso; apply h0
      rw [← shortL_getD sa, h]; rfl
    · have e : a.getD 0 0 = x := by rw [← shortL_getD sa, h]; rfl
      rw [e] at h0 ⊢
      have lx := (ha.short sa).fit (by omega) x (by rw [h]; simp)
      rw [h] at c
      exact inv_one hG lx h0 c
    · omega
  | k + 1, a, n, hk, hkt, hS, hM, sa, ha, hne, hN, hI => by
    have hS' : ShT k t := fun j hj => hS j (by omega)
    have hM' : Model ι s t k := ⟨fun j hj => hM.nn j (by omega), fun j hj => hM.sq j (by omega)⟩
    have hn := ib_ge δ (k + 1) n
    have hn0 := sb_ge δ k (n + n + mkk (k + 1) * δ + ck (k + 1))
    have eS : sb δ (k + 1) n = sb δ k (n + n + mkk (k + 1) * δ + ck (k + 1)) := rfl
    have eI : ib δ (k + 1) n = n + n + ib δ k (n + n + mkk (k + 1) * δ + ck (k + 1)) + mkk (k + 1) * δ + ck (k + 1) := rfl
    have eC : ck (k + 1) = 2 * ck k + 2 := rfl
    have la := ha.fit (by omega)
    have c := Short_spec (G := G) hG sa (by omega) la
    have hb := ha.short sa
    rw [← lv_short ι s sa] at hne
    unfold invL
    simp only
    rcases short_of sa with h | ⟨x, h⟩ | ⟨j, hj, h⟩
    · rw [h] at hne
      exact absurd (lv_nil ι s _) hne
    · rw [if_pos (by rw [h]; rfl)]
      have lx := hb.fit (by omega) x (by rw [h]; simp)
      rw [h] at c hne ⊢
      rw [lv_single] at hne
      exact inv_one hG lx (fun e => hne (by rw [show x = 0 from e, ι.zero])) c
    · have e2 : 2 ^ (j + 1) = 2 ^ j + 2 ^ j := by rw [Nat.pow_succ]; omega
      have pj := pow_pos' j
      generalize shortL a = b at h c hb hne
      have hn2 : b.length / 2 = 2 ^ j := by rw [h, half_pow]
      rw [if_neg (by omega), hn2]
      obtain ⟨q1, q2⟩ := inv_step ι s hS hM (by omega) h hne
      have sx : Sh k (b.take (2 ^ j)) := .inr ⟨j, by omega, by rw [List.length_take]; omega⟩
      have lx : (b.take (2 ^ j)).length ≤ 32 := len64 sx (by omega)
      have lb : b.length ≤ 32 := len64 (k := k + 1) (.inr ⟨j + 1, hj, h⟩) (by omega)
      have sN : Sh k (normL t k b) := normL_sh hS (by omega) h k (by omega) (by omega)
      have bN := hb.norm hT k
      have cn := norm_spec (G := G) hG hT (k := k) (j := j) (by omega) (by omega) hS' (by omega) (by omega) (hS j (by omega)) h hb (by omega)
      have cs := sign_spec (G := G) hG hT k _ _ (by omega) (by omega) hS' sN bN (by omega)
      split
      · rename_i hz
        rw [hz] at cs
        have bp := (hb.take (2 ^ j)).plus (hb.take (2 ^ j))
        have m1 := sb_mono δ k (m := n + n + 1) (n := n + n + mkk (k + 1) * δ + ck (k + 1)) (by omega)
        have m2 := ib_mono δ k (m := n + n + 1) (n := n + n + mkk (k + 1) * δ + ck (k + 1)) (by omega)
        exact inv_zero hG c h (by omega) cn cs (plus_specB hG (hb.take _) (hb.take _) (by omega) (by omega) lx lx)
          (inverse_spec hG hT k _ _ (by omega) (by omega) hS' hM' (sx.plus sx) bp (q1 hz) (by omega) (by omega))
      · rename_i hz
        have sc : Sh (k + 1) (joinL (b.take (2 ^ j)) (minusL (b.drop (2 ^ j))) (2 ^ j)) := .inr ⟨j + 1, by omega, by rw [joinL_len]; omega⟩
        have ld : (b.drop (2 ^ j)).length ≤ 32 := by rw [List.length_drop]; omega
        obtain ⟨i1, -⟩ := invL_ok ι s k _ hS' hM' sN (q2 hz)
        have bI := Bt.inv hT k _ _ hS' sN bN
        have bJ := (hb.take (2 ^ j)).join (hb.drop (2 ^ j)).minus (2 ^ j)
        exact inv_run hG c h (by omega) hz cn cs (minus_specB hG (hb.drop _) (by omega) ld)
          (inverse_spec hG hT k _ _ (by omega) (by omega) hS' hM' sN bN (q2 hz) (by omega) (by omega))
          (times_spec hG hT (k + 1) _ _ _ _ hk hkt hS sc (i1.mono (by omega : k ≤ k + 1)) bJ bI (by omega))
end model

/-! ### Accepted numbers and towers -/
theorem FValid_F (hG : Steady G) {q : Rat} (h : SzQ KB q) : Spec Tryz.prog G 42 [F q] (bool true) := by
  have := FValid_spec (G := G) hG (r := rawOf q) h.ok (Nat.le_refl _)
  rw [rawOf_valid] at this
  exact this
def nuInv (t : Tow) (l : List Rat) (i : Nat) : St := lay 34 [(2, .rptr [.row t.length false (t.map NumD)]), (23, NumD l), (24, nat l.length), (25, nat i)] []
theorem nu_round (hG : Steady G) {t : Tow} {l : List Rat} {i : Nat} (hi : i < l.length) (hb : l.length ≤ 32) (hl : SzL KB l) :
    Goes Tryz.prog G 0 (loopOf Tryz.f117 0) (nuInv t l i) .normal (nuInv t l (i + 1)) := by
  have e := aggS cF_len hi 0
  have c := FValid_F (G := G) hG (hl _ (getD_mem hi 0))
  exact Goes.of_run hG (ro := []) (m := 60) (lay_len ..)
    [.eq 26 (eqB (lt_true hi)), .prop (atS_need cF_len (by omega) hi), .prop (loadS_need cF_len (by omega) hi), .eq 28 e, .call c, .eq 33 (eqS (nat_succ' hi (by omega)))] (by kernel_rfl)
theorem nu_loop (hG : Steady G) {t : Tow} {l : List Rat} (hb : l.length ≤ 32) (hl : SzL KB l) :
    Abs Tryz.prog G 34 0 (.loop (loopOf Tryz.f117 0)) (nuInv t l 0) (.exit 0) (nuInv t l l.length) :=
  Abs.count (fun i => nuInv t l i) l.length (fun i => lay_len ..) (by intro h; cases h)
    (fun i hi => nu_round hG hi hb hl) (Goes.of_run hG (ro := []) (m := 60) (lay_len ..) [.eq 26 (eqB (lt_false (Nat.le_refl l.length)))] (by kernel_rfl))
theorem number_spec (hG : Steady G) {t : Tow} {a : List Rat} (hs : Sh t.length a) (ht : t.length ≤ 5) (hl : SzL KB a) : Spec Tryz.prog G 117 [TowD t, NumD a] (.lit .nilIface) := by
  have lp := nu_loop (G := G) hG (t := t) (len64 hs ht) hl
  rcases hs with rfl | ⟨j, hj, ha⟩
  · exact Spec.of_run hG Tryz.func117 (ro := [2]) (m := 60) [.code lp] (by kernel_rfl)
  · have lv := level_spec (G := G) hG (k := j) (by omega) (a.flatMap cF)
    have pj := pow_pos' j
    have g1 : decide (Int.ofNat (2 ^ j) > 0) = true := by rw [decide_eq_true_iff]; simp only [Int.ofNat_eq_natCast]; omega
    have g2 : decide (Int.ofNat j < 0) = false := by rw [decide_eq_false_iff_not]; simp only [Int.ofNat_eq_natCast]; omega
    have g3 : decide (Int.ofNat j > Int.ofNat t.length) = false := by rw [decide_eq_false_iff_not]; simp only [Int.ofNat_eq_natCast]; omega
    unfold nuInv at lp
    rw [ha, numN_eq ha] at lp
    rw [numN_eq ha]
    exact Spec.of_run hG Tryz.func117 (ro := [2]) (m := 60) [.eq 10 (eqB g1), .call lv, .eq 14 (eqB g2), .eq 20 (eqB g3), .code lp] (by kernel_rfl)
end Tw
end Lw
