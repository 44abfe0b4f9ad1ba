/- The contracts of the integers: order, numbers, division, greatest common divisors, bits. No condition. -/
import Derived.Test.YtfdllnbmjlhliaaGreatDoorLwX
namespace Lw
open Go Go.RowKit Go.Proofs

variable {G : World → Prop}

/-! ### Cmp -/
def cmpZ (i j : Int) : Int := if i < j then -1 else if j < i then 1 else 0
theorem sign_cases (i : Int) : (i < 0 ∧ i.sign = -1) ∨ (i = 0 ∧ i.sign = 0) ∨ (0 < i ∧ i.sign = 1) := by
  rcases Int.lt_trichotomy i 0 with a | a | a
  · exact .inl ⟨a, Int.sign_eq_neg_one_of_neg a⟩
  · subst a; exact .inr (.inl ⟨rfl, rfl⟩)
  · exact .inr (.inr ⟨a, Int.sign_eq_one_of_pos a⟩)
theorem sign_lt {i j : Int} (h : i.sign < j.sign) : i < j := by
  rcases sign_cases i with ⟨a, b⟩ | ⟨a, b⟩ | ⟨a, b⟩ <;> rcases sign_cases j with ⟨c, d⟩ | ⟨c, d⟩ | ⟨c, d⟩ <;> omega
theorem unneg {x : Int} (h : -2 ≤ x) (h' : x ≤ 2) : IntKind.wrap .i64 (0 - x) = -x := by rw [wrapS (by omega) (by omega)]; omega
theorem cmpI_range (m n : Nat) : -2 ≤ cmpI m n ∧ cmpI m n ≤ 2 := by
  unfold cmpI
  split
  · omega
  · split <;> omega
theorem Cmp_spec (hG : Steady G) {i j : Int} (hi : SzI i) (hj : SzI j) : Spec Tryz.prog G 68 [W i, W j] (int (cmpZ i j)) := by
  have si := Sign_spec (G := G) hG hi
  have sj := Sign_spec (G := G) hG hj
  by_cases h : i.sign = j.sign
  · obtain ⟨s, m, rfl, hs, hm⟩ := mk_of i
    obtain ⟨t, n, rfl, ht, hn⟩ := mk_of j
    unfold SzI at hi hj
    rw [← hm] at hi
    rw [← hn] at hj
    rw [W_mk hs] at si ⊢
    rw [W_mk ht] at sj ⊢
    have c1 := mag_spec (G := G) hG hs hi.le36
    have c2 := mag_spec (G := G) hG ht hj.le36
    have c3 := compare_spec (G := G) hG m n hi.le36 hj.le36
    have c4 := neg_spec (G := G) hG hs hi.le36
    obtain ⟨r1, r2⟩ := cmpI_range m n
    cases s with
    | false =>
      have ht' : t = false := by
        cases t with
        | false => rfl
        | true =>
          exfalso
          have h1 : (mkI true n).sign = -1 := Int.sign_eq_neg_one_of_neg (by have := ht rfl; show -(n : Int) < 0; omega)
          have h2 : 0 ≤ (mkI false m).sign := by show 0 ≤ ((m : Int)).sign; rcases sign_cases (m : Int) with ⟨a, b⟩ | ⟨a, b⟩ | ⟨a, b⟩ <;> omega
          omega
      subst ht'
      have e : cmpZ (mkI false m) (mkI false n) = cmpI m n := by
        show (if (m : Int) < (n : Int) then (-1 : Int) else if (n : Int) < m then 1 else 0) = _
        unfold cmpI
        by_cases q1 : m < n
        · rw [if_pos q1, if_pos (by omega)]
        · rw [if_neg q1, if_neg (by omega)]
          by_cases q2 : n < m
          · rw [if_pos q2, if_pos (by omega)]
          · rw [if_neg q2, if_neg (by omega)]
      rw [e]
      exact Spec.of_run hG Tryz.func68 (ro := [2, 3]) (m := 30)
        [.call si, .call sj, .eq 14 (eqB (x := (mkI false m).sign != (mkI false n).sign) (y := false) (by rw [h]; simp)), .call c1, .call c2, .call c3, .call c4] (by kernel_rfl)
    | true =>
      have ht' : t = true := by
        cases t with
        | true => rfl
        | false =>
          exfalso
          have h1 : (mkI true m).sign = -1 := Int.sign_eq_neg_one_of_neg (by have := hs rfl; show -(m : Int) < 0; omega)
          have h2 : 0 ≤ (mkI false n).sign := by show 0 ≤ ((n : Int)).sign; rcases sign_cases (n : Int) with ⟨a, b⟩ | ⟨a, b⟩ | ⟨a, b⟩ <;> omega
          omega
      subst ht'
      have e : cmpZ (mkI true m) (mkI true n) = -cmpI m n := by
        show (if -(m : Int) < -(n : Int) then (-1 : Int) else if -(n : Int) < -(m : Int) then 1 else 0) = _
        unfold cmpI
        by_cases q1 : m < n
        · rw [if_pos q1, if_neg (by omega), if_pos (by omega)]; rfl
        · rw [if_neg q1]
          by_cases q2 : n < m
          · rw [if_pos q2, if_pos (by omega)]
          · rw [if_neg q2, if_neg (by omega), if_neg (by omega)]; rfl
      rw [e]
      exact Spec.of_run hG Tryz.func68 (ro := [2, 3]) (m := 30)
        [.call si, .call sj, .eq 14 (eqB (x := (mkI true m).sign != (mkI true n).sign) (y := false) (by rw [h]; simp)), .call c1, .call c2, .call c3, .call c4, .eq 26 (eqS (unneg r1 r2))] (by kernel_rfl)
  · by_cases h2 : i.sign < j.sign
    · have e : cmpZ i j = -1 := by unfold cmpZ; rw [if_pos (sign_lt h2)]
      rw [e]
      exact Spec.of_run hG Tryz.func68 (ro := [2, 3]) (m := 30)
        [.call si, .call sj, .eq 14 (eqB (x := i.sign != j.sign) (y := true) (by simpa using h)), .eq 17 (eqB (x := decide (i.sign < j.sign)) (y := true) (by simpa using h2))] (by kernel_rfl)
    · have h3 := sign_lt (i := j) (j := i) (by omega)
      have e : cmpZ i j = 1 := by unfold cmpZ; rw [if_neg (by omega), if_pos h3]
      rw [e]
      exact Spec.of_run hG Tryz.func68 (ro := [2, 3]) (m := 30)
        [.call si, .call sj, .eq 14 (eqB (x := i.sign != j.sign) (y := true) (by simpa using h)), .eq 17 (eqB (x := decide (i.sign < j.sign)) (y := false) (by simpa using h2))] (by kernel_rfl)

/-! ### Of -/
theorem two_words {x : Nat} : val [x % 4294967296, x / 4294967296] = x := by simp only [val]; omega
theorem two_dig {x : Nat} (h : x < 18446744073709551616) : Dig [x % 4294967296, x / 4294967296] := by
  intro y hy
  simp only [List.mem_cons, List.not_mem_nil, or_false] at hy
  omega
theorem Of_neg (hG : Steady G) {x : Nat} (h0 : 0 < x) (h : x ≤ 9223372036854775808) : Spec Tryz.prog G 71 [int (-(x : Int))] (W (-(x : Int))) := by
  have hw := whole_any (G := G) hG true (l := [x % 4294967296, x / 4294967296]) (two_dig (by omega)) (by simp)
  rw [two_words] at hw
  have e := W_mk' true x
  have e2 : mkI true x = -(x : Int) := rfl
  rw [e2] at e
  rw [e]
  have c1 : IntKind.wrap .u64 (-(x : Int)) = Int.ofNat (18446744073709551616 - x) := by rw [wrap64i]; simp only [Int.ofNat_eq_natCast]; omega
  have c2 : IntKind.wrap .u64 (0 - Int.ofNat (18446744073709551616 - x)) = Int.ofNat x := by rw [wrap64i]; simp only [Int.ofNat_eq_natCast]; omega
  have lt : decide (-(x : Int) < 0) = true := by simp; omega
  exact Spec.of_run hG Tryz.func71 (ro := []) (m := 30)
    [.eq 5 (eq64 c1), .eq 7 (eqB lt), .eq 9 (eq64 c2), .eq 11 (eqB lt), .eq 13 (eq32 (conv32 x)), .eq 15 (eq64 (shr32 x)), .eq 16 (eq32 (x := IntKind.wrap .u32 (Int.ofNat (x / 4294967296))) (y := Int.ofNat (x / 4294967296)) (by rw [conv32, Nat.mod_eq_of_lt (by omega)])), .call hw] (by kernel_rfl)
theorem Of_pos (hG : Steady G) {x : Nat} (h : x < 9223372036854775808) : Spec Tryz.prog G 71 [int (x : Int)] (W (x : Int)) := by
  have hw := whole_any (G := G) hG false (l := [x % 4294967296, x / 4294967296]) (two_dig (by omega)) (by simp)
  rw [two_words] at hw
  have e := W_mk' false x
  have e2 : mkI false x = (x : Int) := rfl
  rw [e2] at e
  rw [e]
  have lt : decide ((x : Int) < 0) = false := by simp
  exact Spec.of_run hG Tryz.func71 (ro := []) (m := 30)
    [.eq 5 (eq64 (x := IntKind.wrap .u64 (x : Int)) (y := Int.ofNat x) (wrap64 (by omega))), .eq 7 (eqB lt), .eq 11 (eqB lt), .eq 13 (eq32 (conv32 x)), .eq 15 (eq64 (shr32 x)),
     .eq 16 (eq32 (x := IntKind.wrap .u32 (Int.ofNat (x / 4294967296))) (y := Int.ofNat (x / 4294967296)) (by rw [conv32, Nat.mod_eq_of_lt (by omega)])), .call hw] (by kernel_rfl)
theorem Of_spec (hG : Steady G) {i : Int} (h : -9223372036854775808 ≤ i) (h' : i < 9223372036854775808) : Spec Tryz.prog G 71 [int i] (W i) := by
  by_cases hi : i < 0
  · obtain ⟨x, rfl⟩ : ∃ x : Nat, i = -(x : Int) := ⟨i.natAbs, by omega⟩
    exact Of_neg hG (by omega) (by omega)
  · obtain ⟨x, rfl⟩ : ∃ x : Nat, i = (x : Int) := ⟨i.natAbs, by omega⟩
    exact Of_pos hG (by omega)

/-! ### Div -/
theorem divide_words (hG : Steady G) {a b : Nat} (hb0 : 0 < b) (ha : (words a).length ≤ 2 ^ 36) (hb : (words b).length ≤ 2 ^ 36) :
    Spec Tryz.prog G 131 [rowW (words a), rowW (words b)] (.tup [rowW (words (a / b)), rowW (words (a % b))]) := divide_spec hG hb0 ha hb
theorem plus_one (hG : Steady G) {a : Nat} (ha : (words a).length ≤ 2 ^ 36) : Spec Tryz.prog G 106 [rowW (words a), rowW [1]] (rowW (words (a + 1))) := by
  have := plus_spec (G := G) hG (dig_words a) (m := [1]) (fun y hy => by simp at hy; omega) ha (by simp)
  rw [val_words] at this
  exact this
theorem Div_even (hG : Steady G) {s t : Bool} {m n : Nat} (hs : s = true → 0 < m) (ht : t = true → 0 < n) (hn0 : 0 < n) (hm : Sz m) (hn : Sz n) (hr : s = false ∨ m % n = 0) :
    Spec Tryz.prog G 105 [wv s m, wv t n] (.tup [wv (Bool.xor s t && decide (0 < m / n)) (m / n), wv (false && decide (0 < m % n)) (m % n), .lit .nilIface]) := by
  have hq : (words (m / n)).length ≤ 2 ^ 36 := Nat.le_trans (len_mono (Nat.div_le_self _ _)) hm.le36
  have hr' : (words (m % n)).length ≤ 2 ^ 36 := Nat.le_trans (len_mono (Nat.mod_le _ _)) hm.le36
  have hw := whole_spec (G := G) hG (Bool.xor s t) hq
  have hw2 := whole_spec (G := G) hG false hr'
  cases s with
  | false =>
    cases t <;>
      exact Spec.of_run hG Tryz.func105 (ro := [2, 3]) (m := 30)
        [.call (mag_spec hG ht hn.le36), .eq 14 (eqB (words_ne hn0)), .call (mag_spec hG hs hm.le36), .call (divide_words hG hn0 hm.le36 hn.le36), .call (neg_spec hG hs hm.le36),
         .call (neg_spec hG hs hm.le36), .call (neg_spec hG ht hn.le36), .call hw, .call hw2] (by kernel_rfl)
  | true =>
    have h0 : m % n = 0 := by rcases hr with h | h; cases h; exact h
    have hl : decide (Int.ofNat (words (m % n)).length > 0) = false := by rw [len_pos_dec, h0]; rfl
    cases t <;>
      exact Spec.of_run hG Tryz.func105 (ro := [2, 3]) (m := 30)
        [.call (mag_spec hG ht hn.le36), .eq 14 (eqB (words_ne hn0)), .call (mag_spec hG hs hm.le36), .call (divide_words hG hn0 hm.le36 hn.le36), .call (neg_spec hG hs hm.le36), .eq 30 (eqB hl),
         .call (neg_spec hG hs hm.le36), .call (neg_spec hG ht hn.le36), .call hw, .call hw2] (by kernel_rfl)
theorem Div_odd (hG : Steady G) {t : Bool} {m n : Nat} (hs : 0 < m) (ht : t = true → 0 < n) (hn0 : 0 < n) (hm : Sz m) (hn : Sz n) (hr : 0 < m % n) :
    Spec Tryz.prog G 105 [wv true m, wv t n] (.tup [wv (Bool.xor true t && decide (0 < m / n + 1)) (m / n + 1), wv (false && decide (0 < n - m % n)) (n - m % n), .lit .nilIface]) := by
  have h30 : (2:Nat) ^ 30 = 1073741824 := by decide
  have h36 : (2:Nat) ^ 36 = 68719476736 := by decide
  have hq : (words (m / n)).length ≤ 2 ^ 36 := Nat.le_trans (len_mono (Nat.div_le_self _ _)) hm.le36
  have hq1 : (words (m / n + 1)).length ≤ 2 ^ 36 := by
    have h1 : m / n + 1 ≤ m + 1 := by have := Nat.div_le_self m n; omega
    have h2 := len_mono h1
    have h3 := len_add (a := m) (b := 1)
    have h4 : (words 1).length = 1 := rfl
    unfold Sz at hm
    omega
  have hr' : (words (m % n)).length ≤ 2 ^ 36 := Nat.le_trans (len_mono (Nat.mod_le _ _)) hm.le36
  have hr2 : (words (n - m % n)).length ≤ 2 ^ 36 := Nat.le_trans (len_mono (Nat.sub_le _ _)) hn.le36
  have hw := whole_spec (G := G) hG (Bool.xor true t) hq1
  have hw2 := whole_spec (G := G) hG false hr2
  have hl : decide (Int.ofNat (words (m % n)).length > 0) = true := by rw [len_pos_dec]; exact decide_eq_true hr
  have hmn : m % n ≤ n := Nat.le_of_lt (Nat.mod_lt _ hn0)
  cases t <;>
    exact Spec.of_run hG Tryz.func105 (ro := [2, 3]) (m := 30)
      [.call (mag_spec hG ht hn.le36), .eq 14 (eqB (words_ne hn0)), .call (mag_spec (s := true) hG (fun _ => hs) hm.le36), .call (divide_words hG hn0 hm.le36 hn.le36), .call (neg_spec (s := true) hG (fun _ => hs) hm.le36), .eq 30 (eqB hl),
       .call (plus_one hG hq), .call (less_words hG hn.le36 hmn), .call (neg_spec (s := true) hG (fun _ => hs) hm.le36), .call (neg_spec hG ht hn.le36), .call hw, .call hw2] (by kernel_rfl)
theorem W_nat (n : Nat) : W (n : Int) = wv (false && decide (0 < n)) n := W_mk' false n
theorem div_neg' (a : Int) (n : Nat) : a / -(n : Int) = -(a / n) ∧ a % -(n : Int) = a % n := ⟨Int.ediv_neg _ _, Int.emod_neg _ _⟩
theorem Div_spec (hG : Steady G) {i j : Int} (hi : SzI i) (hj : SzI j) (hj0 : j ≠ 0) : Spec Tryz.prog G 105 [W i, W j] (.tup [W (i / j), W (i % j), .lit .nilIface]) := by
  obtain ⟨s, m, rfl, hs, hm⟩ := mk_of i
  obtain ⟨t, n, rfl, ht, hn⟩ := mk_of j
  unfold SzI at hi hj
  rw [← hm] at hi
  rw [← hn] at hj
  have hn0 : 0 < n := by
    rcases Nat.eq_zero_or_pos n with h | h
    · subst h; exact absurd (by cases t <;> rfl) hj0
    · exact h
  rw [W_mk hs, W_mk ht]
  have hdm := Nat.div_add_mod m n
  have hml := Nat.mod_lt m hn0
  by_cases hc : s = false ∨ m % n = 0
  · have e : mkI s m / mkI t n = mkI (Bool.xor s t) (m / n) ∧ mkI s m % mkI t n = ((m % n : Nat) : Int) := by
      have base : mkI s m / (n : Int) = mkI s (m / n) ∧ mkI s m % (n : Int) = ((m % n : Nat) : Int) := by
        rw [Int.ediv_emod_unique (by omega)]
        cases s with
        | false => exact ⟨by show ((m % n : Nat) : Int) + (n : Int) * ((m / n : Nat) : Int) = (m : Int); rw [← Int.natCast_mul]; omega, by omega, by omega⟩
        | true =>
          have h0 : m % n = 0 := by rcases hc with h | h; cases h; exact h
          refine ⟨?_, by omega, by omega⟩
          show ((m % n : Nat) : Int) + (n : Int) * (-((m / n : Nat) : Int)) = -(m : Int)
          rw [Int.mul_neg, ← Int.natCast_mul]; omega
      cases t with
      | false =>
        have : Bool.xor s false = s := by cases s <;> rfl
        rw [this]; exact base
      | true =>
        obtain ⟨b1, b2⟩ := div_neg' (mkI s m) n
        refine ⟨?_, by show mkI s m % -(n : Int) = _; rw [b2]; exact base.2⟩
        show mkI s m / -(n : Int) = _
        rw [b1, base.1]
        cases s <;> simp [mkI]
    rw [e.1, e.2, W_mk', W_nat]
    exact Div_even hG hs ht hn0 hi hj hc
  · have hst : s = true := by cases s with | true => rfl | false => exact absurd (.inl rfl) hc
    subst hst
    have hr : 0 < m % n := by
      rcases Nat.eq_zero_or_pos (m % n) with h | h
      · exact absurd (.inr h) hc
      · exact h
    have e : mkI true m / mkI t n = mkI (Bool.xor true t) (m / n + 1) ∧ mkI true m % mkI t n = ((n - m % n : Nat) : Int) := by
      have base : mkI true m / (n : Int) = mkI true (m / n + 1) ∧ mkI true m % (n : Int) = ((n - m % n : Nat) : Int) := by
        rw [Int.ediv_emod_unique (by omega)]
        refine ⟨?_, by omega, by omega⟩
        show ((n - m % n : Nat) : Int) + (n : Int) * (-((m / n + 1 : Nat) : Int)) = -(m : Int)
        rw [Int.mul_neg, ← Int.natCast_mul, Nat.mul_add, Nat.mul_one]; omega
      cases t with
      | false => exact base
      | true =>
        obtain ⟨b1, b2⟩ := div_neg' (mkI true m) n
        refine ⟨?_, by show mkI true m % -(n : Int) = _; rw [b2]; exact base.2⟩
        show mkI true m / -(n : Int) = _
        rw [b1, base.1]
        simp [mkI]
    rw [e.1, e.2, W_mk', W_nat]
    exact Div_odd hG (hs rfl) ht hn0 hi hj hr
end Lw
