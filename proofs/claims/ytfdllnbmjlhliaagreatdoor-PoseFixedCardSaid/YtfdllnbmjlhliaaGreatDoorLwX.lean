/- The contracts of the integers: signs, sums, products, quotients. No condition. -/
import Derived.Test.YtfdllnbmjlhliaaGreatDoorLwW
namespace Lw
open Go Go.RowKit Go.Proofs

variable {G : World → Prop}

/-- A valid integer: sign and size. -/
def wv (s : Bool) (n : Nat) : D := .agg [bool s, rowW (words n)]
def mkI (s : Bool) (n : Nat) : Int := if s then -(n : Int) else n
def W (i : Int) : D := wv (decide (i < 0)) i.natAbs
theorem W_mk {s : Bool} {n : Nat} (h : s = true → 0 < n) : W (mkI s n) = wv s n := by
  cases s with
  | false =>
    have e : mkI false n = (n : Int) := rfl
    have e2 : decide ((n : Int) < 0) = false := by simp
    rw [e]; unfold W; rw [e2]; rfl
  | true =>
    have hn := h rfl
    have e : mkI true n = -(n : Int) := rfl
    have e2 : decide (-(n : Int) < 0) = true := by simp; omega
    rw [e]; unfold W; rw [e2, Int.natAbs_neg]; rfl
theorem mk_of (i : Int) : ∃ s n, mkI s n = i ∧ (s = true → 0 < n) ∧ n = i.natAbs := by
  by_cases h : i < 0
  · exact ⟨true, i.natAbs, by unfold mkI; rw [if_pos rfl]; omega, fun _ => by omega, rfl⟩
  · exact ⟨false, i.natAbs, by unfold mkI; rw [if_neg (by simp)]; omega, fun h => (by cases h), rfl⟩
/-- Few enough words. -/
def Sz (n : Nat) : Prop := (words n).length ≤ 2 ^ 30
theorem Sz.le36 {n : Nat} (h : Sz n) : (words n).length ≤ 2 ^ 36 := Nat.le_trans h (by decide)
theorem len_lt60 {n : Nat} (h : (words n).length ≤ 2 ^ 36) : (words n).length < 2 ^ 60 := Nat.lt_of_le_of_lt h (by decide)
theorem words_ne {n : Nat} (h : 0 < n) : (Int.ofNat (words n).length == 0) = false := by
  have := words_len_pos (n := n) (by omega)
  rw [beq_eq_false_iff_ne]; simp only [Int.ofNat_eq_natCast]; omega

theorem valid_spec (hG : Steady G) {s : Bool} {n : Nat} (hs : s = true → 0 < n) (hn : (words n).length ≤ 2 ^ 36) : Spec Tryz.prog G 119 [wv s n] (bool true) := by
  rcases Nat.eq_zero_or_pos n with rfl | h
  · cases s with
    | false => exact Spec.of_run hG Tryz.func119 (ro := [1]) (m := 30) [] (by kernel_rfl)
    | true => exact absurd (hs rfl) (by omega)
  · have hp := words_len_pos (n := n) (by omega)
    have hlt : (words n).length - 1 < (words n).length := by omega
    have hl := words_last (n := n) (by omega)
    exact Spec.of_run hG Tryz.func119 (ro := [1]) (m := 30)
      [.eq 6 (eqB (words_ne h)), .eq 15 (eqS (nat_sub (i := (words n).length) (k := 1) (len_lt60 hn) (by omega))), .prop (at_need hlt), .prop (load_need hlt), .eq 17 (headD_need hlt),
       .eq 18 (eqB (x := Int.ofNat ((words n).getD ((words n).length - 1) 0) != 0) (y := true) (by simp only [bne_iff_ne, Int.ofNat_eq_natCast]; omega))] (by kernel_rfl)
theorem mag_spec (hG : Steady G) {s : Bool} {n : Nat} (hs : s = true → 0 < n) (hn : (words n).length ≤ 2 ^ 36) : Spec Tryz.prog G 98 [wv s n] (rowW (words n)) :=
  Spec.of_run hG Tryz.func98 (ro := [1]) (m := 30) [.call (valid_spec hG hs hn)] (by kernel_rfl)
theorem neg_spec (hG : Steady G) {s : Bool} {n : Nat} (hs : s = true → 0 < n) (hn : (words n).length ≤ 2 ^ 36) : Spec Tryz.prog G 100 [wv s n] (bool s) :=
  Spec.of_run hG Tryz.func100 (ro := [1]) (m := 30) [.call (valid_spec hG hs hn)] (by kernel_rfl)
theorem len_pos_dec (n : Nat) : decide (Int.ofNat (words n).length > 0) = decide (0 < n) := by
  rcases Nat.eq_zero_or_pos n with rfl | h
  · rfl
  · have := words_len_pos (n := n) (by omega)
    rw [decide_eq_true h, decide_eq_true]; simp only [Int.ofNat_eq_natCast]; omega
theorem whole_spec (hG : Steady G) (s : Bool) {n : Nat} (hn : (words n).length ≤ 2 ^ 36) : Spec Tryz.prog G 101 [bool s, rowW (words n)] (wv (s && decide (0 < n)) n) := by
  cases s with
  | false => exact Spec.of_run hG Tryz.func101 (ro := []) (m := 30) [.call (trim_words hG n hn)] (by kernel_rfl)
  | true => exact Spec.of_run hG Tryz.func101 (ro := []) (m := 30) [.call (trim_words hG n hn), .eq 11 (eqB (len_pos_dec n))] (by kernel_rfl)
/-- The same for any words. -/
theorem whole_any (hG : Steady G) (s : Bool) {l : List Nat} (hl : Dig l) (hn : l.length ≤ 2 ^ 36) : Spec Tryz.prog G 101 [bool s, rowW l] (wv (s && decide (0 < val l)) (val l)) := by
  have h36 : (2:Nat) ^ 36 = 68719476736 := by decide
  have h40 : (2:Nat) ^ 40 = 1099511627776 := by decide
  have ht := trim_spec (G := G) hG hl (by omega)
  cases s with
  | false => exact Spec.of_run hG Tryz.func101 (ro := []) (m := 30) [.call ht] (by kernel_rfl)
  | true => exact Spec.of_run hG Tryz.func101 (ro := []) (m := 30) [.call ht, .eq 11 (eqB (len_pos_dec (val l)))] (by kernel_rfl)
theorem sign_wv (hG : Steady G) {s : Bool} {n : Nat} (hs : s = true → 0 < n) (hn : (words n).length ≤ 2 ^ 36) : Spec Tryz.prog G 67 [wv s n] (int (if n = 0 then 0 else if s then -1 else 1)) := by
  rcases Nat.eq_zero_or_pos n with rfl | h
  · exact Spec.of_run hG Tryz.func67 (ro := [1]) (m := 30) [.call (mag_spec hG hs hn)] (by kernel_rfl)
  · rw [if_neg (by omega)]
    cases s with
    | false => exact Spec.of_run hG Tryz.func67 (ro := [1]) (m := 30) [.call (mag_spec hG hs hn), .eq 7 (eqB (words_ne h))] (by kernel_rfl)
    | true => exact Spec.of_run hG Tryz.func67 (ro := [1]) (m := 30) [.call (mag_spec hG hs hn), .eq 7 (eqB (words_ne h))] (by kernel_rfl)
theorem Neg_wv (hG : Steady G) {s : Bool} {n : Nat} (hs : s = true → 0 < n) (hn : (words n).length ≤ 2 ^ 36) : Spec Tryz.prog G 103 [wv s n] (wv (!s && decide (0 < n)) n) := by
  cases s with
  | false => exact Spec.of_run hG Tryz.func103 (ro := [1]) (m := 30) [.call (neg_spec hG hs hn), .call (mag_spec hG hs hn), .call (whole_spec hG true hn)] (by kernel_rfl)
  | true => exact Spec.of_run hG Tryz.func103 (ro := [1]) (m := 30) [.call (neg_spec hG hs hn), .call (mag_spec hG hs hn), .call (whole_spec hG false hn)] (by kernel_rfl)
theorem times_words (hG : Steady G) {a b : Nat} (ha : (words a).length ≤ 2 ^ 36) (hb : (words b).length ≤ 2 ^ 36) : Spec Tryz.prog G 102 [rowW (words a), rowW (words b)] (rowW (words (a * b))) := by
  have := times_spec (G := G) hG (dig_words a) (dig_words b) ha hb
  rwa [val_words, val_words] at this
theorem plus_words (hG : Steady G) {a b : Nat} (ha : (words a).length ≤ 2 ^ 36) (hb : (words b).length ≤ 2 ^ 36) : Spec Tryz.prog G 106 [rowW (words a), rowW (words b)] (rowW (words (a + b))) := by
  have := plus_spec (G := G) hG (dig_words a) (dig_words b) ha hb
  rwa [val_words, val_words] at this
theorem less_words (hG : Steady G) {a b : Nat} (ha : (words a).length ≤ 2 ^ 36) (h : b ≤ a) : Spec Tryz.prog G 107 [rowW (words a), rowW (words b)] (rowW (words (a - b))) := by
  have := less_spec (G := G) hG (dig_words a) (dig_words b) (by rw [val_words, val_words]; exact h) ha
  rwa [val_words, val_words] at this
theorem len_mul {a b : Nat} : (words (a * b)).length ≤ (words a).length + (words b).length := by
  rw [len_le_iff, BP_add]
  have h1 := (len_le_iff a _).1 (Nat.le_refl _)
  have h2 := (len_le_iff b _).1 (Nat.le_refl _)
  rcases Nat.eq_zero_or_pos b with rfl | hb
  · rw [Nat.mul_zero]; exact Nat.mul_pos (BP_pos _) (BP_pos _)
  · exact Nat.lt_of_lt_of_le (Nat.mul_lt_mul_of_pos_right h1 hb) (Nat.mul_le_mul_left _ (Nat.le_of_lt h2))
theorem len_mono {a b : Nat} (h : a ≤ b) : (words a).length ≤ (words b).length := (len_le_iff a _).2 (Nat.lt_of_le_of_lt h ((len_le_iff b _).1 (Nat.le_refl _)))
theorem len_add {a b : Nat} : (words (a + b)).length ≤ max (words a).length (words b).length + 1 := by
  rw [len_le_iff, BP_succ]
  have h1 := (len_le_iff a _).1 (Nat.le_max_left (words a).length (words b).length)
  have h2 := (len_le_iff b _).1 (Nat.le_max_right (words a).length (words b).length)
  omega
theorem Mul_wv (hG : Steady G) {s t : Bool} {m n : Nat} (hs : s = true → 0 < m) (ht : t = true → 0 < n) (hm : Sz m) (hn : Sz n) :
    Spec Tryz.prog G 69 [wv s m, wv t n] (wv (Bool.xor s t && decide (0 < m * n)) (m * n)) := by
  have h30 : (2:Nat) ^ 30 = 1073741824 := by decide
  have h36 : (2:Nat) ^ 36 = 68719476736 := by decide
  have hl : (words (m * n)).length ≤ 2 ^ 36 := by
    have := len_mul (a := m) (b := n)
    unfold Sz at hm hn; omega
  have hw := whole_spec (G := G) hG (Bool.xor s t) hl
  cases s <;> cases t <;>
    exact Spec.of_run hG Tryz.func69 (ro := [2, 3]) (m := 30)
      [.call (neg_spec hG hs hm.le36), .call (neg_spec hG ht hn.le36), .call (mag_spec hG hs hm.le36), .call (mag_spec hG ht hn.le36), .call (times_words hG hm.le36 hn.le36), .call hw] (by kernel_rfl)
theorem cmp_ge0 {a b : Nat} (h : b ≤ a) : decide (cmpI a b ≥ 0) = true := by
  unfold cmpI
  rw [if_neg (by omega)]
  split <;> rfl
theorem cmp_lt0 {a b : Nat} (h : a < b) : decide (cmpI a b ≥ 0) = false := by
  unfold cmpI
  rw [if_pos h]; rfl
/-- A sum: where the signs are equal. -/
theorem Add_same (hG : Steady G) (s : Bool) {m n : Nat} (hs : s = true → 0 < m) (ht : s = true → 0 < n) (hm : Sz m) (hn : Sz n) :
    Spec Tryz.prog G 73 [wv s m, wv s n] (wv (s && decide (0 < m + n)) (m + n)) := by
  have h30 : (2:Nat) ^ 30 = 1073741824 := by decide
  have h36 : (2:Nat) ^ 36 = 68719476736 := by decide
  have hl : (words (m + n)).length ≤ 2 ^ 36 := by
    have := len_add (a := m) (b := n)
    unfold Sz at hm hn; omega
  have hw := whole_spec (G := G) hG s hl
  cases s <;>
    exact Spec.of_run hG Tryz.func73 (ro := [2, 3]) (m := 30)
      [.call (mag_spec hG hs hm.le36), .call (mag_spec hG ht hn.le36), .call (neg_spec hG hs hm.le36), .call (neg_spec hG ht hn.le36), .call (neg_spec hG hs hm.le36), .call (plus_words hG hm.le36 hn.le36), .call hw] (by kernel_rfl)
/-- A sum: where the first one is at least as big. -/
theorem Add_big (hG : Steady G) (s : Bool) {m n : Nat} (hs : s = true → 0 < m) (ht : (!s) = true → 0 < n) (hm : Sz m) (hn : Sz n) (h : n ≤ m) :
    Spec Tryz.prog G 73 [wv s m, wv (!s) n] (wv (s && decide (0 < m - n)) (m - n)) := by
  have hl : (words (m - n)).length ≤ 2 ^ 36 := Nat.le_trans (len_mono (Nat.sub_le _ _)) hm.le36
  have hw := whole_spec (G := G) hG s hl
  cases s <;>
    exact Spec.of_run hG Tryz.func73 (ro := [2, 3]) (m := 30)
      [.call (mag_spec hG hs hm.le36), .call (mag_spec hG ht hn.le36), .call (neg_spec hG hs hm.le36), .call (neg_spec hG ht hn.le36), .call (compare_spec hG m n hm.le36 hn.le36), .eq 27 (eqB (cmp_ge0 h)),
       .call (neg_spec hG hs hm.le36), .call (less_words hG hm.le36 h), .call hw] (by kernel_rfl)
/-- A sum: where the second one is bigger. -/
theorem Add_small (hG : Steady G) (s : Bool) {m n : Nat} (hs : s = true → 0 < m) (ht : (!s) = true → 0 < n) (hm : Sz m) (hn : Sz n) (h : m < n) :
    Spec Tryz.prog G 73 [wv s m, wv (!s) n] (wv (!s && decide (0 < n - m)) (n - m)) := by
  have hl : (words (n - m)).length ≤ 2 ^ 36 := Nat.le_trans (len_mono (Nat.sub_le _ _)) hn.le36
  have hw := whole_spec (G := G) hG (!s) hl
  cases s <;>
    exact Spec.of_run hG Tryz.func73 (ro := [2, 3]) (m := 30)
      [.call (mag_spec hG hs hm.le36), .call (mag_spec hG ht hn.le36), .call (neg_spec hG hs hm.le36), .call (neg_spec hG ht hn.le36), .call (compare_spec hG m n hm.le36 hn.le36), .eq 27 (eqB (cmp_lt0 h)),
       .call (neg_spec hG ht hn.le36), .call (less_words hG hn.le36 (Nat.le_of_lt h)), .call hw] (by kernel_rfl)

/-! ### By integers. -/
theorem W_mk' (s : Bool) (n : Nat) : W (mkI s n) = wv (s && decide (0 < n)) n := by
  rcases Nat.eq_zero_or_pos n with rfl | h
  · have : mkI s 0 = mkI false 0 := by cases s <;> rfl
    rw [this, W_mk (by simp)]; simp
  · rw [decide_eq_true h, Bool.and_true]; exact W_mk fun _ => h
/-- Few enough words. -/
def SzI (i : Int) : Prop := Sz i.natAbs
theorem Add_spec (hG : Steady G) {i j : Int} (hi : SzI i) (hj : SzI j) : Spec Tryz.prog G 73 [W i, W j] (W (i + j)) := by
  obtain ⟨s, m, rfl, hs, hm⟩ := mk_of i
  obtain ⟨t, n, rfl, ht, hn⟩ := mk_of j
  unfold SzI at hi hj
  rw [← hm] at hi
  rw [← hn] at hj
  rw [W_mk hs, W_mk ht]
  by_cases hst : t = s
  · subst hst
    have e : mkI t m + mkI t n = mkI t (m + n) := by unfold mkI; cases t <;> simp; omega
    rw [e, W_mk']
    exact Add_same hG t hs ht hi hj
  · have : t = !s := by cases s <;> cases t <;> first | rfl | exact absurd rfl hst
    subst this
    rcases Nat.lt_or_ge m n with h | h
    · have e : mkI s m + mkI (!s) n = mkI (!s) (n - m) := by unfold mkI; cases s <;> simp <;> omega
      rw [e, W_mk']
      exact Add_small hG s hs ht hi hj h
    · have e : mkI s m + mkI (!s) n = mkI s (m - n) := by unfold mkI; cases s <;> simp <;> omega
      rw [e, W_mk']
      exact Add_big hG s hs ht hi hj h
theorem Mul_spec (hG : Steady G) {i j : Int} (hi : SzI i) (hj : SzI j) : Spec Tryz.prog G 69 [W i, W j] (W (i * j)) := by
  obtain ⟨s, m, rfl, hs, hm⟩ := mk_of i
  obtain ⟨t, n, rfl, ht, hn⟩ := mk_of j
  unfold SzI at hi hj
  rw [← hm] at hi
  rw [← hn] at hj
  rw [W_mk hs, W_mk ht]
  have e : mkI s m * mkI t n = mkI (Bool.xor s t) (m * n) := by unfold mkI; cases s <;> cases t <;> simp [Int.mul_neg, Int.neg_mul]
  rw [e, W_mk']
  exact Mul_wv hG hs ht hi hj
theorem Neg_spec (hG : Steady G) {i : Int} (hi : SzI i) : Spec Tryz.prog G 103 [W i] (W (-i)) := by
  obtain ⟨s, m, rfl, hs, hm⟩ := mk_of i
  unfold SzI at hi
  rw [← hm] at hi
  rw [W_mk hs]
  have e : -mkI s m = mkI (!s) m := by unfold mkI; cases s <;> simp
  rw [e, W_mk']
  exact Neg_wv hG hs hi.le36
theorem Sign_spec (hG : Steady G) {i : Int} (hi : SzI i) : Spec Tryz.prog G 67 [W i] (int i.sign) := by
  obtain ⟨s, m, rfl, hs, hm⟩ := mk_of i
  unfold SzI at hi
  rw [← hm] at hi
  rw [W_mk hs]
  have := sign_wv (G := G) hG hs hi.le36
  have e : (mkI s m).sign = if m = 0 then 0 else if s then -1 else 1 := by
    cases s with
    | false =>
      show ((m : Int)).sign = if m = 0 then 0 else if false = true then -1 else 1
      by_cases h : m = 0
      · subst h; rfl
      · rw [if_neg h, if_neg (by simp)]; exact Int.sign_eq_one_of_pos (by omega)
    | true =>
      have := hs rfl
      show (-(m : Int)).sign = if m = 0 then 0 else if true = true then -1 else 1
      rw [if_neg (show ¬ m = 0 by omega), if_pos rfl]; exact Int.sign_eq_neg_one_of_neg (by omega)
  rw [e]; exact this
end Lw
