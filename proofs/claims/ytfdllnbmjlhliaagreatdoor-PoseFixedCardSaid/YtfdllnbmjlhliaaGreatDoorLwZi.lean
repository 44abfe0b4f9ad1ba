/- The contracts of the reference's integers by integers. No condition. -/
import Derived.Test.YtfdllnbmjlhliaaGreatDoorLwZh
namespace Lw
open Go Go.RowKit Go.Proofs

variable {G : World → Prop}

/-! ### gcd -/
theorem trim_need (n : Nat) (h0 : 0 < n) (h : n ≤ 2 ^ 36) (l : List D) (hl : l.length = n) : 0 < n ∧ ([] : List D).length = 0 * 1 ∧ l.length = n * 1 ∧ 0 + n ≤ 2 ^ 62 ∧ (0 + n) * 4 ≤ 2 ^ 47 := by
  have h36 : (2:Nat) ^ 36 = 68719476736 := by decide
  have h62 : (2:Nat) ^ 62 = 4611686018427387904 := by decide
  have h47 : (2:Nat) ^ 47 = 140737488355328 := by decide
  exact ⟨h0, rfl, by omega, by omega, by omega⟩
theorem rgcd_zero_l (hG : Steady G) {b : Nat} (hb : (words b).length ≤ 2 ^ 36) : Spec Tryz.prog G 122 [rowW (words 0), rowW (words b)] (rowW (words b)) := by
  have h36 : (2:Nat) ^ 36 = 68719476736 := by decide
  have h40 : (2:Nat) ^ 40 = 1099511627776 := by decide
  have t1 := rtrim_spec (G := G) hG (dig_words 0) (by decide)
  have t2 := rtrim_spec (G := G) hG (dig_words b) (by omega)
  rw [val_words] at t1 t2
  exact Spec.of_run hG Tryz.func122 (ro := []) (m := 40) [.call t1, .call t2, .eq 12 (eqB (x := (Int.ofNat (words 0).length == 0)) (y := true) rfl)] (by kernel_rfl)
theorem rgcd_zero_r (hG : Steady G) {a : Nat} (h : 0 < a) (ha : (words a).length ≤ 2 ^ 36) : Spec Tryz.prog G 122 [rowW (words a), rowW (words 0)] (rowW (words a)) := by
  have h36 : (2:Nat) ^ 36 = 68719476736 := by decide
  have h40 : (2:Nat) ^ 40 = 1099511627776 := by decide
  have t1 := rtrim_spec (G := G) hG (dig_words a) (by omega)
  have t2 := rtrim_spec (G := G) hG (dig_words 0) (by decide)
  rw [val_words] at t1 t2
  exact Spec.of_run hG Tryz.func122 (ro := []) (m := 40) [.call t1, .call t2, .eq 12 (eqB (words_ne h)), .eq 16 (eqB (x := (Int.ofNat (words 0).length == 0)) (y := true) rfl)] (by kernel_rfl)
theorem rgcd_both (hG : Steady G) {a b : Nat} (ha0 : 0 < a) (hb0 : 0 < b) (ha : (words a).length ≤ 2 ^ 36) (hb : (words b).length ≤ 2 ^ 36) :
    Spec Tryz.prog G 122 [rowW (words a), rowW (words b)] (rowW (words (Nat.gcd a b))) := by
  have h36 : (2:Nat) ^ 36 = 68719476736 := by decide
  have h40 : (2:Nat) ^ 40 = 1099511627776 := by decide
  have h59 : (2:Nat) ^ 59 = 576460752303423488 := by decide
  have h60 : (2:Nat) ^ 60 = 1152921504606846976 := by decide
  have la := words_len_pos (n := a) (by omega)
  have lb := words_len_pos (n := b) (by omega)
  obtain ⟨T, hT, hT2⟩ := twos_exist (b := b) ha0
  have hTl : T ≤ 32 * (words a).length := by
    rcases Nat.eq_zero_or_pos T with e | e
    · omega
    · have hp := pow_pos_of ha0 (i := T) fun k hk => (hT k hk).1
      have h1 : 2 ^ T ≤ a := by
        rcases Nat.lt_or_ge a (2 ^ T) with q | q
        · rw [Nat.div_eq_of_lt q] at hp; omega
        · exact q
      have h2 := (len_le_iff a _).1 (Nat.le_refl _)
      rw [BP_two] at h2
      rcases Nat.lt_or_ge (32 * (words a).length) T with q | q
      · have := Nat.pow_le_pow_right (n := 2) (by omega) (Nat.le_of_lt q); omega
      · exact q
  have hg := twos_gcd T hT
  have hodd := gcd_odd hT2
  have hbT := pow_pos_of hb0 (i := T) fun k hk => (hT k hk).2
  have hboth := both_loop (G := G) hG (N0 := (words a).length) (N1 := (words b).length) ha0 hb0 (by omega) (by omega) (Nat.le_refl _) (Nat.le_refl _) hT hT2 (by omega)
  have est : gst (words a).length (words b).length 0 ⟨false, a, b⟩ = lay 72 [(0, .gsl 0 (0 + (words a).length) 1), (1, .gsl 1 (0 + (words b).length) 1), (5, nat 0)] [(0, [] ++ (words a).map u32), (1, [] ++ (words b).map u32)] := by
    unfold gst blk2 dcel
    simp only [cond, Nat.zero_add, List.nil_append]
    rw [← words_digs_self, ← words_digs_self]
  rw [est] at hboth
  have hfit : (GS.mk false (a / 2 ^ T) (b / 2 ^ T)).fits (words a).length (words b).length := ⟨len_mono (Nat.div_le_self _ _), len_mono (Nat.div_le_self _ _)⟩
  obtain ⟨sw, hf, hmain⟩ := gm_loop (G := G) hG (N0 := (words a).length) (N1 := (words b).length) (tw := T) (by omega) (by omega) hfit hbT hodd
  simp only at hf hmain
  generalize hgg : Nat.gcd (a / 2 ^ T) (b / 2 ^ T) = g at *
  have hle : (words (2 ^ T * g)).length ≤ 2 ^ 36 := by rw [hg]; exact Nat.le_trans (len_mono (Nat.gcd_le_left b ha0)) ha
  have hdb := db_loop (G := G) hG (T := T) (g := g) (by omega) hle
  have ga : decide (Int.ofNat (0 + (words a).length) > 0) = true := by simp only [Int.ofNat_eq_natCast, decide_eq_true_eq]; omega
  have gb : decide (Int.ofNat (0 + (words b).length) > 0) = true := by simp only [Int.ofNat_eq_natCast, decide_eq_true_eq]; omega
  have na : IntKind.wrap .i64 (Int.ofNat (0 + (words a).length) - 1) = Int.ofNat ((words a).length - 1) := by rw [Nat.zero_add]; exact nat_pred (by omega) la
  have nb : IntKind.wrap .i64 (Int.ofNat (0 + (words b).length) - 1) = Int.ofNat ((words b).length - 1) := by rw [Nat.zero_add]; exact nat_pred (by omega) lb
  have ia : (0:Int) ≤ Int.ofNat ((words a).length - 1) ∧ Int.ofNat ((words a).length - 1) < ((0 + (words a).length : Nat) : Int) := by simp only [Int.ofNat_eq_natCast]; omega
  have ib : (0:Int) ≤ Int.ofNat ((words b).length - 1) ∧ Int.ofNat ((words b).length - 1) < ((0 + (words b).length : Nat) : Int) := by simp only [Int.ofNat_eq_natCast]; omega
  have pa : D.ptr 0 ((Int.ofNat ((words a).length - 1)).toNat * 1) = .ptr 0 ((words a).length - 1) := by simp
  have pb : D.ptr 1 ((Int.ofNat ((words b).length - 1)).toNat * 1) = .ptr 1 ((words b).length - 1) := by simp
  have va : 0 < 1 ∧ (words a).length - 1 + 1 ≤ ([] ++ (words a).map u32).length := by rw [List.nil_append, List.length_map]; omega
  have vb : 0 < 1 ∧ (words b).length - 1 + 1 ≤ ([] ++ (words b).map u32).length := by rw [List.nil_append, List.length_map]; omega
  have ca : (([] ++ (words a).map u32).drop ((words a).length - 1)).headD .any = u32 ((words a).getD ((words a).length - 1) 0) := by
    have := headD_u32 (l := words a) (i := (words a).length - 1) (by omega)
    rw [Nat.mul_one] at this; exact this
  have cb : (([] ++ (words b).map u32).drop ((words b).length - 1)).headD .any = u32 ((words b).getD ((words b).length - 1) 0) := by
    have := headD_u32 (l := words b) (i := (words b).length - 1) (by omega)
    rw [Nat.mul_one] at this; exact this
  have za : (Int.ofNat ((words a).getD ((words a).length - 1) 0) == 0) = false := by rw [beq_eq_false_iff_ne]; have := words_last (n := a) (by omega); simp only [Int.ofNat_eq_natCast]; omega
  have zb : (Int.ofNat ((words b).getD ((words b).length - 1) 0) == 0) = false := by rw [beq_eq_false_iff_ne]; have := words_last (n := b) (by omega); simp only [Int.ofNat_eq_natCast]; omega
  have wa : (Int.ofNat (0 + (words a).length) == 0) = false := by rw [beq_eq_false_iff_ne]; simp only [Int.ofNat_eq_natCast]; omega
  have wb : (Int.ofNat (0 + (words b).length) == 0) = false := by rw [beq_eq_false_iff_ne]; simp only [Int.ofNat_eq_natCast]; omega
  have ma := trim_need (words a).length la ha ((words a).map u32) (by simp)
  have mb := trim_need (words b).length lb hb ((words b).map u32) (by simp)
  rw [← hg]
  cases sw
  · have hf2 : (words g).length ≤ (words b).length := hf.2
    rw [← dcel_row hf2] at hdb
    exact Spec.of_run hG Tryz.func122 (ro := []) (m := 40)
      [.inl [] Tryz.func135, .prop ma, .eq 9 (eqB ga), .eq 14 (eqS na), .prop ia, .eq 15 pa, .prop va, .eq 16 ca, .eq 17 (eqB za),
       .inl [] Tryz.func135, .prop mb, .eq 9 (eqB gb), .eq 14 (eqS nb), .prop ib, .eq 15 pb, .prop vb, .eq 16 cb, .eq 17 (eqB zb),
       .eq 12 (eqB wa), .eq 16 (eqB wb), .code hboth, .code hmain, .freeze 1, .code hdb] (by kernel_rfl)
  · have hf2 : (words g).length ≤ (words a).length := hf.1
    rw [← dcel_row hf2] at hdb
    exact Spec.of_run hG Tryz.func122 (ro := []) (m := 40)
      [.inl [] Tryz.func135, .prop ma, .eq 9 (eqB ga), .eq 14 (eqS na), .prop ia, .eq 15 pa, .prop va, .eq 16 ca, .eq 17 (eqB za),
       .inl [] Tryz.func135, .prop mb, .eq 9 (eqB gb), .eq 14 (eqS nb), .prop ib, .eq 15 pb, .prop vb, .eq 16 cb, .eq 17 (eqB zb),
       .eq 12 (eqB wa), .eq 16 (eqB wb), .code hboth, .code hmain, .freeze 0, .code hdb] (by kernel_rfl)
theorem rgcd_spec (hG : Steady G) {a b : Nat} (ha : (words a).length ≤ 2 ^ 36) (hb : (words b).length ≤ 2 ^ 36) :
    Spec Tryz.prog G 122 [rowW (words a), rowW (words b)] (rowW (words (Nat.gcd a b))) := by
  rcases Nat.eq_zero_or_pos a with h | h
  · subst h; rw [Nat.gcd_zero_left]; exact rgcd_zero_l hG hb
  · rcases Nat.eq_zero_or_pos b with h2 | h2
    · subst h2; rw [Nat.gcd_zero_right]; exact rgcd_zero_r hG h ha
    · exact rgcd_both hG h h2 ha hb

/-! ### Words -/
theorem rtimes_words (hG : Steady G) {a b : Nat} (ha : (words a).length ≤ 2 ^ 36) (hb : (words b).length ≤ 2 ^ 36) : Spec Tryz.prog G 125 [rowW (words a), rowW (words b)] (rowW (words (a * b))) := by
  have := rtimes_spec (G := G) hG (dig_words a) (dig_words b) ha hb
  rwa [val_words, val_words] at this
theorem rminus_words (hG : Steady G) {a b : Nat} (ha : (words a).length ≤ 2 ^ 36) (h : b ≤ a) : Spec Tryz.prog G 128 [rowW (words a), rowW (words b)] (rowW (words (a - b))) := by
  have := rminus_spec (G := G) hG (dig_words a) (dig_words b) (by rw [val_words, val_words]; exact h) ha
  rwa [val_words, val_words] at this
theorem rcmp_words (hG : Steady G) {a b : Nat} (ha : (words a).length ≤ 2 ^ 36) (hb : (words b).length ≤ 2 ^ 36) : Spec Tryz.prog G 127 [rowW (words a), rowW (words b)] (int (cmpI a b)) := by
  have h36 : (2:Nat) ^ 36 = 68719476736 := by decide
  have h40 : (2:Nat) ^ 40 = 1099511627776 := by decide
  have := rcompare_spec (G := G) hG (dig_words a) (dig_words b) (by omega) (by omega)
  rwa [val_words, val_words] at this
theorem rplus_one (hG : Steady G) {a : Nat} (ha : (words a).length ≤ 2 ^ 36) : Spec Tryz.prog G 126 [rowW (words a), rowW [1]] (rowW (words (a + 1))) := by
  have := rplus_spec (G := G) hG (dig_words a) (m := [1]) (fun y hy => by simp at hy; omega) ha (by simp)
  rw [val_words] at this
  exact this

/-! ### By integers -/
theorem Rsign_wv (hG : Steady G) {s : Bool} {n : Nat} (hs : s = true → 0 < n) (hn : (words n).length ≤ 2 ^ 36) : Spec Tryz.prog G 111 [wv s n] (int (if n = 0 then 0 else if s then -1 else 1)) := by
  rcases Nat.eq_zero_or_pos n with rfl | h
  · exact Spec.of_run hG Tryz.func111 (ro := [1]) (m := 30) [.call (rmag_spec hG hs hn)] (by kernel_rfl)
  · rw [if_neg (by omega)]
    cases s with
    | false => exact Spec.of_run hG Tryz.func111 (ro := [1]) (m := 30) [.call (rmag_spec hG hs hn), .eq 6 (eqB (words_ne h)), .call (rneg_spec hG hs hn)] (by kernel_rfl)
    | true => exact Spec.of_run hG Tryz.func111 (ro := [1]) (m := 30) [.call (rmag_spec hG hs hn), .eq 6 (eqB (words_ne h)), .call (rneg_spec hG hs hn)] (by kernel_rfl)
theorem RNeg_wv (hG : Steady G) {s : Bool} {n : Nat} (hs : s = true → 0 < n) (hn : (words n).length ≤ 2 ^ 36) : Spec Tryz.prog G 112 [wv s n] (wv (!s && decide (0 < n)) n) := by
  cases s with
  | false => exact Spec.of_run hG Tryz.func112 (ro := [1]) (m := 30) [.call (rneg_spec hG hs hn), .call (rmag_spec hG hs hn), .call (rform_spec hG true hn)] (by kernel_rfl)
  | true => exact Spec.of_run hG Tryz.func112 (ro := [1]) (m := 30) [.call (rneg_spec hG hs hn), .call (rmag_spec hG hs hn), .call (rform_spec hG false hn)] (by kernel_rfl)
theorem RMul_wv (hG : Steady G) {s t : Bool} {m n : Nat} (hs : s = true → 0 < m) (ht : t = true → 0 < n) (hm : Sz m) (hn : Sz n) :
    Spec Tryz.prog G 94 [wv s m, wv t n] (wv (Bool.xor s t && decide (0 < m * n)) (m * n)) := by
  have h30 : (2:Nat) ^ 30 = 1073741824 := by decide
  have h36 : (2:Nat) ^ 36 = 68719476736 := by decide
  have hl : (words (m * n)).length ≤ 2 ^ 36 := by
    have := len_mul (a := m) (b := n)
    unfold Sz at hm hn; omega
  have hw := rform_spec (G := G) hG (Bool.xor s t) hl
  cases s <;> cases t <;>
    exact Spec.of_run hG Tryz.func94 (ro := [2, 3]) (m := 30)
      [.call (rneg_spec hG hs hm.le36), .call (rneg_spec hG ht hn.le36), .call (rmag_spec hG hs hm.le36), .call (rmag_spec hG ht hn.le36), .call (rtimes_words hG hm.le36 hn.le36), .call hw] (by kernel_rfl)
/-- A sum: where the signs are equal. -/
theorem RAdd_same (hG : Steady G) (s : Bool) {m n : Nat} (hs : s = true → 0 < m) (ht : s = true → 0 < n) (hm : Sz m) (hn : Sz n) :
    Spec Tryz.prog G 95 [wv s m, wv s n] (wv (s && decide (0 < m + n)) (m + n)) := by
  have h30 : (2:Nat) ^ 30 = 1073741824 := by decide
  have h36 : (2:Nat) ^ 36 = 68719476736 := by decide
  have hl : (words (m + n)).length ≤ 2 ^ 36 := by
    have := len_add (a := m) (b := n)
    unfold Sz at hm hn; omega
  have hw := rform_spec (G := G) hG s hl
  cases s <;>
    exact Spec.of_run hG Tryz.func95 (ro := [2, 3]) (m := 30)
      [.call (rmag_spec hG hs hm.le36), .call (rmag_spec hG ht hn.le36), .call (rneg_spec hG hs hm.le36), .call (rneg_spec hG ht hn.le36), .call (rneg_spec hG hs hm.le36), .call (rplus_words hG hm.le36 hn.le36), .call hw] (by kernel_rfl)
/-- A sum: where the first one is at least as big. -/
theorem RAdd_big (hG : Steady G) (s : Bool) {m n : Nat} (hs : s = true → 0 < m) (ht : (!s) = true → 0 < n) (hm : Sz m) (hn : Sz n) (h : n ≤ m) :
    Spec Tryz.prog G 95 [wv s m, wv (!s) n] (wv (s && decide (0 < m - n)) (m - n)) := by
  have hl : (words (m - n)).length ≤ 2 ^ 36 := Nat.le_trans (len_mono (Nat.sub_le _ _)) hm.le36
  have hw := rform_spec (G := G) hG s hl
  cases s <;>
    exact Spec.of_run hG Tryz.func95 (ro := [2, 3]) (m := 30)
      [.call (rmag_spec hG hs hm.le36), .call (rmag_spec hG ht hn.le36), .call (rneg_spec hG hs hm.le36), .call (rneg_spec hG ht hn.le36), .call (rcmp_words hG hm.le36 hn.le36), .eq 25 (eqB (cmp_ge0 h)),
       .call (rneg_spec hG hs hm.le36), .call (rminus_words hG hm.le36 h), .call hw] (by kernel_rfl)
/-- A sum: where the second one is bigger. -/
theorem RAdd_small (hG : Steady G) (s : Bool) {m n : Nat} (hs : s = true → 0 < m) (ht : (!s) = true → 0 < n) (hm : Sz m) (hn : Sz n) (h : m < n) :
    Spec Tryz.prog G 95 [wv s m, wv (!s) n] (wv (!s && decide (0 < n - m)) (n - m)) := by
  have hl : (words (n - m)).length ≤ 2 ^ 36 := Nat.le_trans (len_mono (Nat.sub_le _ _)) hn.le36
  have hw := rform_spec (G := G) hG (!s) hl
  cases s <;>
    exact Spec.of_run hG Tryz.func95 (ro := [2, 3]) (m := 30)
      [.call (rmag_spec hG hs hm.le36), .call (rmag_spec hG ht hn.le36), .call (rneg_spec hG hs hm.le36), .call (rneg_spec hG ht hn.le36), .call (rcmp_words hG hm.le36 hn.le36), .eq 25 (eqB (cmp_lt0 h)),
       .call (rneg_spec hG ht hn.le36), .call (rminus_words hG hn.le36 (Nat.le_of_lt h)), .call hw] (by kernel_rfl)

theorem RAdd_spec (hG : Steady G) {i j : Int} (hi : SzI i) (hj : SzI j) : Spec Tryz.prog G 95 [W i, W j] (W (i + j)) := by
  obtain ⟨s, m, rfl, hs, hm⟩ := mk_of i
  obtain ⟨t, n, rfl, ht, hn⟩ := mk_of j
  unfold SzI at hi hj
  rw [← hm] at hi
  rw [← hn] at hj
  rw [W_mk hs, W_mk ht]
  by_cases hst : t = s
  · subst hst
    have e : mkI t m + mkI t n = mkI t (m + n) := by unfold mkI; cases t <;> simp; omega
    rw [e, W_mk']
    exact RAdd_same hG t hs ht hi hj
  · have : t = !s := by cases s <;> cases t <;> first | rfl | exact absurd rfl hst
    subst this
    rcases Nat.lt_or_ge m n with h | h
    · have e : mkI s m + mkI (!s) n = mkI (!s) (n - m) := by unfold mkI; cases s <;> simp <;> omega
      rw [e, W_mk']
      exact RAdd_small hG s hs ht hi hj h
    · have e : mkI s m + mkI (!s) n = mkI s (m - n) := by unfold mkI; cases s <;> simp <;> omega
      rw [e, W_mk']
      exact RAdd_big hG s hs ht hi hj h
theorem RMul_spec (hG : Steady G) {i j : Int} (hi : SzI i) (hj : SzI j) : Spec Tryz.prog G 94 [W i, W j] (W (i * j)) := by
  obtain ⟨s, m, rfl, hs, hm⟩ := mk_of i
  obtain ⟨t, n, rfl, ht, hn⟩ := mk_of j
  unfold SzI at hi hj
  rw [← hm] at hi
  rw [← hn] at hj
  rw [W_mk hs, W_mk ht]
  have e : mkI s m * mkI t n = mkI (Bool.xor s t) (m * n) := by unfold mkI; cases s <;> cases t <;> simp [Int.mul_neg, Int.neg_mul]
  rw [e, W_mk']
  exact RMul_wv hG hs ht hi hj
theorem RNeg_spec (hG : Steady G) {i : Int} (hi : SzI i) : Spec Tryz.prog G 112 [W i] (W (-i)) := by
  obtain ⟨s, m, rfl, hs, hm⟩ := mk_of i
  unfold SzI at hi
  rw [← hm] at hi
  rw [W_mk hs]
  have e : -mkI s m = mkI (!s) m := by unfold mkI; cases s <;> simp
  rw [e, W_mk']
  exact RNeg_wv hG hs hi.le36
theorem RSign_spec (hG : Steady G) {i : Int} (hi : SzI i) : Spec Tryz.prog G 111 [W i] (int i.sign) := by
  obtain ⟨s, m, rfl, hs, hm⟩ := mk_of i
  unfold SzI at hi
  rw [← hm] at hi
  rw [W_mk hs]
  have := Rsign_wv (G := G) hG hs hi.le36
  have e : (mkI s m).sign = if m = 0 then 0 else if s then -1 else 1 := by
    cases s with
    | false =>
      show ((m : Int)).sign = if m = 0 then 0 else if false = true then -1 else 1
      by_cases h : m = 0
      · subst h; rfl
      · rw [if_neg h, if_neg (by simp)]; exact Int.sign_eq_one_of_pos (by omega)
    | true =>
      have := hs rfl
      show (-(m : Int)).sign = if m = 0 then 0 else if true = true then -1 else 1
      rw [if_neg (show ¬ m = 0 by omega), if_pos rfl]; exact Int.sign_eq_neg_one_of_neg (by omega)
  rw [e]; exact this
theorem RDiv_even (hG : Steady G) {s t : Bool} {m n : Nat} (hs : s = true → 0 < m) (ht : t = true → 0 < n) (hn0 : 0 < n) (hm : Sz m) (hn : Sz n) (hr : s = false ∨ m % n = 0) :
    Spec Tryz.prog G 113 [wv s m, wv t n] (.tup [wv (Bool.xor s t && decide (0 < m / n)) (m / n), wv (false && decide (0 < m % n)) (m % n), int 0]) := by
  have hq : (words (m / n)).length ≤ 2 ^ 36 := Nat.le_trans (len_mono (Nat.div_le_self _ _)) hm.le36
  have hr' : (words (m % n)).length ≤ 2 ^ 36 := Nat.le_trans (len_mono (Nat.mod_le _ _)) hm.le36
  have hsg : ((if n = 0 then 0 else if t then -1 else 1 : Int) == 0) = false := by rw [if_neg (by omega)]; cases t <;> rfl
  have hw := rform_spec (G := G) hG (Bool.xor s t) hq
  have hw2 := rform_spec (G := G) hG false hr'
  cases s with
  | false =>
    cases t <;>
      exact Spec.of_run hG Tryz.func113 (ro := [2, 3]) (m := 30)
        [.call (Rsign_wv hG ht hn.le36), .eq 11 (eqB hsg), .call (rmag_spec hG hs hm.le36), .call (rmag_spec hG ht hn.le36), .call (rdivide_spec hG hn0 hm.le36 hn.le36), .call (rneg_spec hG hs hm.le36),
         .call (rneg_spec hG hs hm.le36), .call (rneg_spec hG ht hn.le36), .call hw, .call hw2] (by kernel_rfl)
  | true =>
    have h0 : m % n = 0 := by rcases hr with h | h; cases h; exact h
    have hl : decide (Int.ofNat (words (m % n)).length > 0) = false := by rw [len_pos_dec, h0]; rfl
    cases t <;>
      exact Spec.of_run hG Tryz.func113 (ro := [2, 3]) (m := 30)
        [.call (Rsign_wv hG ht hn.le36), .eq 11 (eqB hsg), .call (rmag_spec hG hs hm.le36), .call (rmag_spec hG ht hn.le36), .call (rdivide_spec hG hn0 hm.le36 hn.le36), .call (rneg_spec hG hs hm.le36), .eq 27 (eqB hl),
         .call (rneg_spec hG hs hm.le36), .call (rneg_spec hG ht hn.le36), .call hw, .call hw2] (by kernel_rfl)
theorem RDiv_odd (hG : Steady G) {t : Bool} {m n : Nat} (hs : 0 < m) (ht : t = true → 0 < n) (hn0 : 0 < n) (hm : Sz m) (hn : Sz n) (hr : 0 < m % n) :
    Spec Tryz.prog G 113 [wv true m, wv t n] (.tup [wv (Bool.xor true t && decide (0 < m / n + 1)) (m / n + 1), wv (false && decide (0 < n - m % n)) (n - m % n), int 0]) := by
  have h30 : (2:Nat) ^ 30 = 1073741824 := by decide
  have h36 : (2:Nat) ^ 36 = 68719476736 := by decide
  have hq : (words (m / n)).length ≤ 2 ^ 36 := Nat.le_trans (len_mono (Nat.div_le_self _ _)) hm.le36
  have hq1 : (words (m / n + 1)).length ≤ 2 ^ 36 := by
    have h1 : m / n + 1 ≤ m + 1 := by have := Nat.div_le_self m n; omega
    have h2 := len_mono h1
    have h3 := len_add (a := m) (b := 1)
    have h4 : (words 1).length = 1 := rfl
    unfold Sz at hm
    omega
  have hr' : (words (m % n)).length ≤ 2 ^ 36 := Nat.le_trans (len_mono (Nat.mod_le _ _)) hm.le36
  have hr2 : (words (n - m % n)).length ≤ 2 ^ 36 := Nat.le_trans (len_mono (Nat.sub_le _ _)) hn.le36
  have hsg : ((if n = 0 then 0 else if t then -1 else 1 : Int) == 0) = false := by rw [if_neg (by omega)]; cases t <;> rfl
  have hw := rform_spec (G := G) hG (Bool.xor true t) hq1
  have hw2 := rform_spec (G := G) hG false hr2
  have hl : decide (Int.ofNat (words (m % n)).length > 0) = true := by rw [len_pos_dec]; exact decide_eq_true hr
  have hmn : m % n ≤ n := Nat.le_of_lt (Nat.mod_lt _ hn0)
  cases t <;>
    exact Spec.of_run hG Tryz.func113 (ro := [2, 3]) (m := 30)
      [.call (Rsign_wv hG ht hn.le36), .eq 11 (eqB hsg), .call (rmag_spec (s := true) hG (fun _ => hs) hm.le36), .call (rmag_spec hG ht hn.le36), .call (rdivide_spec hG hn0 hm.le36 hn.le36), .call (rneg_spec (s := true) hG (fun _ => hs) hm.le36), .eq 27 (eqB hl),
       .call (rplus_one hG hq), .call (rmag_spec hG ht hn.le36), .call (rminus_words hG hn.le36 hmn), .call (rneg_spec (s := true) hG (fun _ => hs) hm.le36), .call (rneg_spec hG ht hn.le36), .call hw, .call hw2] (by kernel_rfl)
theorem RDiv_spec (hG : Steady G) {i j : Int} (hi : SzI i) (hj : SzI j) (hj0 : j ≠ 0) : Spec Tryz.prog G 113 [W i, W j] (.tup [W (i / j), W (i % j), int 0]) := by
  obtain ⟨s, m, rfl, hs, hm⟩ := mk_of i
  obtain ⟨t, n, rfl, ht, hn⟩ := mk_of j
  unfold SzI at hi hj
  rw [← hm] at hi
  rw [← hn] at hj
  have hn0 : 0 < n := by
    rcases Nat.eq_zero_or_pos n with h | h
    · subst h; exact absurd (by cases t <;> rfl) hj0
    · exact h
  rw [W_mk hs, W_mk ht]
  have hdm := Nat.div_add_mod m n
  have hml := Nat.mod_lt m hn0
  by_cases hc : s = false ∨ m % n = 0
  · have e : mkI s m / mkI t n = mkI (Bool.xor s t) (m / n) ∧ mkI s m % mkI t n = ((m % n : Nat) : Int) := by
      have base : mkI s m / (n : Int) = mkI s (m / n) ∧ mkI s m % (n : Int) = ((m % n : Nat) : Int) := by
        rw [Int.ediv_emod_unique (by omega)]
        cases s with
        | false => exact ⟨by show ((m % n : Nat) : Int) + (n : Int) * ((m / n : Nat) : Int) = (m : Int); rw [← Int.natCast_mul]; omega, by omega, by omega⟩
        | true =>
          have h0 : m % n = 0 := by rcases hc with h | h; cases h; exact h
          refine ⟨?_, by omega, by omega⟩
          show ((m % n : Nat) : Int) + (n : Int) * (-((m / n : Nat) : Int)) = -(m : Int)
          rw [Int.mul_neg, ← Int.natCast_mul]; omega
      cases t with
      | false =>
        have : Bool.xor s false = s := by cases s <;> rfl
        rw [this]; exact base
      | true =>
        obtain ⟨b1, b2⟩ := div_neg' (mkI s m) n
        refine ⟨?_, by show mkI s m % -(n : Int) = _; rw [b2]; exact base.2⟩
        show mkI s m / -(n : Int) = _
        rw [b1, base.1]
        cases s <;> simp [mkI]
    rw [e.1, e.2, W_mk', W_nat]
    exact RDiv_even hG hs ht hn0 hi hj hc
  · have hst : s = true := by cases s with | true => rfl | false => exact absurd (.inl rfl) hc
    subst hst
    have hr : 0 < m % n := by
      rcases Nat.eq_zero_or_pos (m % n) with h | h
      · exact absurd (.inr h) hc
      · exact h
    have e : mkI true m / mkI t n = mkI (Bool.xor true t) (m / n + 1) ∧ mkI true m % mkI t n = ((n - m % n : Nat) : Int) := by
      have base : mkI true m / (n : Int) = mkI true (m / n + 1) ∧ mkI true m % (n : Int) = ((n - m % n : Nat) : Int) := by
        rw [Int.ediv_emod_unique (by omega)]
        refine ⟨?_, by omega, by omega⟩
        show ((n - m % n : Nat) : Int) + (n : Int) * (-((m / n + 1 : Nat) : Int)) = -(m : Int)
        rw [Int.mul_neg, ← Int.natCast_mul, Nat.mul_add, Nat.mul_one]; omega
      cases t with
      | false => exact base
      | true =>
        obtain ⟨b1, b2⟩ := div_neg' (mkI true m) n
        refine ⟨?_, by show mkI true m % -(n : Int) = _; rw [b2]; exact base.2⟩
        show mkI true m / -(n : Int) = _
        rw [b1, base.1]
        simp [mkI]
    rw [e.1, e.2, W_mk', W_nat]
    exact RDiv_odd hG (hs rfl) ht hn0 hi hj hr

theorem RGcd_spec (hG : Steady G) {i j : Int} (hi : SzI i) (hj : SzI j) : Spec Tryz.prog G 91 [W i, W j] (W ((Int.gcd i j : Nat) : Int)) := by
  obtain ⟨s, m, rfl, hs, hm⟩ := mk_of i
  obtain ⟨t, n, rfl, ht, hn⟩ := mk_of j
  unfold SzI at hi hj
  rw [← hm] at hi
  rw [← hn] at hj
  rw [W_mk hs, W_mk ht, W_nat]
  have e : Int.gcd (mkI s m) (mkI t n) = Nat.gcd m n := by unfold Int.gcd; rw [← hm, ← hn]
  rw [e]
  exact Spec.of_run hG Tryz.func91 (ro := [2, 3]) (m := 30)
    [.call (rmag_spec hG hs hi.le36), .call (rmag_spec hG ht hj.le36), .call (rgcd_spec hG hi.le36 hj.le36), .call (rform_spec hG false (len_gcd hi.le36 hj.le36))] (by kernel_rfl)
theorem RSub_spec (hG : Steady G) {i j : Int} (hi : SzI i) (hj : SzI j) : Spec Tryz.prog G 121 [W i, W j] (W (i - j)) := by
  have h := RAdd_spec (G := G) hG (i := i) (j := -j) hi (by unfold SzI at hj ⊢; rw [Int.natAbs_neg]; exact hj)
  rw [← Int.sub_eq_add_neg] at h
  exact Spec.of_run hG Tryz.func121 (ro := [2, 3]) (m := 30) [.call (RNeg_spec hG hj), .call h] (by kernel_rfl)
theorem cmpZ_sign (i j : Int) : (i - j).sign = cmpZ i j := by
  unfold cmpZ
  rcases sign_cases (i - j) with ⟨a, b⟩ | ⟨a, b⟩ | ⟨a, b⟩
  · rw [b, if_pos (by omega)]
  · rw [b, if_neg (by omega), if_neg (by omega)]
  · rw [b, if_neg (by omega), if_pos (by omega)]
theorem RCmp_spec (hG : Steady G) {i j : Int} (hi : (words i.natAbs).length < 2 ^ 30) (hj : (words j.natAbs).length < 2 ^ 30) : Spec Tryz.prog G 90 [W i, W j] (int (cmpZ i j)) := by
  have hs : SzI (i - j) := by
    have h1 := len_mono (Int.natAbs_sub_le i j)
    have h2 := len_add (a := i.natAbs) (b := j.natAbs)
    unfold SzI Sz; omega
  have h := RSign_spec (G := G) hG hs
  rw [cmpZ_sign] at h
  exact Spec.of_run hG Tryz.func90 (ro := [2, 3]) (m := 30) [.call (RSub_spec hG (i := i) (j := j) (Nat.le_of_lt hi) (Nat.le_of_lt hj)), .call h] (by kernel_rfl)
end Lw
