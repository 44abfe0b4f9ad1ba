/- The statements about results inside of results, run. No condition. -/
import Derived.Test.YtcdhaaadohmcoaaGreatDoorLwTr
namespace Lw
open Go Go.RowKit Go.Proofs

variable {G : World → Prop}

/-! ### Intervals inside of others -/
theorem mul_inside {a b c d a' b' c' d' : Rat} (h1 : a ≤ a') (h2 : a' ≤ b') (h3 : b' ≤ b) (h4 : c ≤ c') (h5 : c' ≤ d') (h6 : d' ≤ d) :
    mulLo a b c d ≤ mulLo a' b' c' d' ∧ mulHi a' b' c' d' ≤ mulHi a b c d := by
  have p1 := mul_in h1 (Rat.le_trans h2 h3) h4 (Rat.le_trans h5 h6)
  have p2 := mul_in h1 (Rat.le_trans h2 h3) (Rat.le_trans h4 h5) h6
  have p3 := mul_in (Rat.le_trans h1 h2) h3 h4 (Rat.le_trans h5 h6)
  have p4 := mul_in (Rat.le_trans h1 h2) h3 (Rat.le_trans h4 h5) h6
  constructor
  · rcases mulLo_mem a' b' c' d' with e | e | e | e
    · rw [e]; exact p1.1
    · rw [e]; exact p2.1
    · rw [e]; exact p3.1
    · rw [e]; exact p4.1
  · rcases mulHi_mem a' b' c' d' with e | e | e | e
    · rw [e]; exact p1.2
    · rw [e]; exact p2.2
    · rw [e]; exact p3.2
    · rw [e]; exact p4.2
theorem apart_in {c d x y : Rat} (h : ¬ (c ≤ 0 ∧ 0 ≤ d)) (h1 : c ≤ x) (h2 : y ≤ d) : ¬ (x ≤ 0 ∧ 0 ≤ y) := fun g => h ⟨Rat.le_trans h1 g.1, Rat.le_trans g.2 h2⟩
theorem inv_inside {c d c' d' : Rat} (h : ¬ (c ≤ 0 ∧ 0 ≤ d)) (h1 : c ≤ c') (h2 : c' ≤ d') (h3 : d' ≤ d) :
    ((1 : Int) : Rat) / d ≤ ((1 : Int) : Rat) / d' ∧ ((1 : Int) : Rat) / d' ≤ ((1 : Int) : Rat) / c' ∧ ((1 : Int) : Rat) / c' ≤ ((1 : Int) : Rat) / c :=
  ⟨(one_div_pos_le h3 (apart_in h (Rat.le_trans h1 h2) Rat.le_refl)).2.2, (one_div_pos_le h2 (apart_in h h1 h3)).2.2, (one_div_pos_le h1 (apart_in h Rat.le_refl (Rat.le_trans h2 h3))).2.2⟩
theorem isq_mono {m n : Nat} (h : m ≤ n) : isq m ≤ isq n := by
  have a := isq_le m
  have b := isq_lt n
  rcases Nat.lt_or_ge (isq n) (isq m) with c | c
  · have : (isq n + 1) * (isq n + 1) ≤ isq m * isq m := Nat.mul_le_mul c c
    omega
  · exact c
theorem isqUp_mono {s t : Int} (h0 : 0 ≤ s) (h : s ≤ t) : isqUp s ≤ isqUp t := by
  obtain ⟨a1, a2, a3⟩ := isqUp_says h0
  obtain ⟨b1, b2, b3⟩ := isqUp_says (Int.le_trans h0 h)
  by_cases c : isqUp t < isqUp s
  · rcases a3 with a3 | a3
    · omega
    · have : isqUp t * isqUp t ≤ (isqUp s - 1) * (isqUp s - 1) := Int.mul_le_mul (by omega) (by omega) b1 (by omega)
      omega
  · omega
theorem div_mono {a b s : Rat} (h : a ≤ b) (hs : 0 < s) : a / s ≤ b / s := by
  rw [Rat.div_def, Rat.div_def]
  exact Rat.mul_le_mul_of_nonneg_right h (Rat.le_of_lt (Rat.inv_pos.2 hs))
theorem rootLo_mono {a b : Rat} (h0 : 0 ≤ a) (h : a ≤ b) (n : Nat) : rootLo a n ≤ rootLo b n := by
  have hs := sqQ_pos n
  have h1 : a * sqQ n ≤ b * sqQ n := Rat.mul_le_mul_of_nonneg_right h (Rat.le_of_lt hs)
  have h2 : 0 ≤ a * sqQ n := Rat.mul_nonneg h0 (Rat.le_of_lt hs)
  have f0 : 0 ≤ (a * sqQ n).floor := Rat.le_floor_iff.2 h2
  have f1 : (a * sqQ n).floor ≤ (b * sqQ n).floor := Rat.floor_monotone h1
  unfold rootLo
  refine div_mono (Rat.intCast_le_intCast.2 ?_) (twoQ_pos n)
  have := isq_mono (m := (a * sqQ n).floor.natAbs) (n := (b * sqQ n).floor.natAbs) (by omega)
  omega
theorem rootHi_mono {a b : Rat} (h0 : 0 ≤ a) (h : a ≤ b) (n : Nat) : rootHi a n ≤ rootHi b n := by
  have hs := sqQ_pos n
  have h1 : a * sqQ n ≤ b * sqQ n := Rat.mul_le_mul_of_nonneg_right h (Rat.le_of_lt hs)
  have h2 : 0 ≤ a * sqQ n := Rat.mul_nonneg h0 (Rat.le_of_lt hs)
  have f0 := (ceil_facts h2).1
  have f1 : (-(b * sqQ n)).floor ≤ (-(a * sqQ n)).floor := Rat.floor_monotone (Rat.neg_le_neg h1)
  unfold rootHi
  exact div_mono (Rat.intCast_le_intCast.2 (isqUp_mono f0 (by omega))) (twoQ_pos n)
theorem and_true {p q : Prop} [Decidable p] [Decidable q] (h : p) (h2 : q) : (decide p && decide q) = true := by rw [decide_eq_true h, decide_eq_true h2]; rfl
theorem IsI.sub {k l : Nat} {x y : D} {a b c d : Rat} (hx : IsI k x a b) (hy : IsI l y c d) : IsI (k + l + 1) (FR (a - d) (b - c)) (a - d) (b - c) :=
  FR_isI (hx.szL.1.sub hy.szL.2) (hx.szL.2.sub hy.szL.1) (by have := hx.le; have := hy.le; grind)
theorem IsI.add {k l : Nat} {x y : D} {a b c d : Rat} (hx : IsI k x a b) (hy : IsI l y c d) : IsI (k + l + 1) (FR (a + c) (b + d)) (a + c) (b + d) :=
  FR_isI (hx.szL.1.add hy.szL.1) (hx.szL.2.add hy.szL.2) (by have := hx.le; have := hy.le; grind)
theorem mulLo_le_hi {a b c d : Rat} (h1 : a ≤ b) (h2 : c ≤ d) : mulLo a b c d ≤ mulHi a b c d := by
  have := mul_in (Rat.le_refl (a := a)) h1 (Rat.le_refl (a := c)) h2
  exact Rat.le_trans this.1 this.2
theorem IsI.mul {k l : Nat} {x y : D} {a b c d : Rat} (hx : IsI k x a b) (hy : IsI l y c d) : IsI (k + l) (FR (mulLo a b c d) (mulHi a b c d)) (mulLo a b c d) (mulHi a b c d) :=
  FR_isI (SzQ.mulLo hx.szL.1 hx.szL.2 hy.szL.1 hy.szL.2) (SzQ.mulHi hx.szL.1 hx.szL.2 hy.szL.1 hy.szL.2) (mulLo_le_hi hx.le hy.le)
theorem IsI.hull {k : Nat} {x y : D} {a b c d : Rat} (hx : IsI k x a b) (hy : IsI k y c d) : IsI k (FR (min a c) (max b d)) (min a c) (max b d) :=
  FR_isI (hx.szL.1.min hy.szL.1) (hx.szL.2.max hy.szL.2) (Rat.le_trans (rmin_le_l a c) (Rat.le_trans hx.le (le_rmax_l b d)))
theorem IsI.inv {l : Nat} {y : D} {c d : Rat} (hy : IsI l y c d) (h : ¬ (c ≤ 0 ∧ 0 ≤ d)) : IsI (1 + l) (FR (((1 : Int) : Rat) / d) (((1 : Int) : Rat) / c)) (((1 : Int) : Rat) / d) (((1 : Int) : Rat) / c) :=
  FR_isI ((sz_one (by omega)).div hy.szL.2) ((sz_one (by omega)).div hy.szL.1) (one_div_pos_le hy.le h).2.2
theorem hull_inside {a b c d a' b' c' d' : Rat} (h1 : a ≤ a') (h3 : b' ≤ b) (h4 : c ≤ c') (h6 : d' ≤ d) : min a c ≤ min a' c' ∧ max b' d' ≤ max b d :=
  ⟨le_rmin (Rat.le_trans (rmin_le_l a c) h1) (Rat.le_trans (rmin_le_r a c) h4), rmax_le (Rat.le_trans h3 (le_rmax_l b d)) (Rat.le_trans h6 (le_rmax_r b d))⟩

/-! ### IntervalInside -/
def parts4 (a b c d : Nat) : D := .agg [u8 a, u8 b, u8 c, u8 d]
theorem u8_min (m n : Nat) : D.lit (.int .u8 (if Int.ofNat n < Int.ofNat m then Int.ofNat n else Int.ofNat m)) = u8 (min m n) := by
  unfold u8
  split
  · rw [show min m n = n by simp only [Int.ofNat_eq_natCast] at *; omega]
  · rw [show min m n = m by simp only [Int.ofNat_eq_natCast] at *; omega]
theorem u8_max (m n : Nat) : D.lit (.int .u8 (if Int.ofNat n > Int.ofNat m then Int.ofNat n else Int.ofNat m)) = u8 (max m n) := by
  unfold u8
  split
  · rw [show max m n = n by simp only [Int.ofNat_eq_natCast] at *; omega]
  · rw [show max m n = m by simp only [Int.ofNat_eq_natCast] at *; omega]
theorem Inside_long (hG : Steady G) (r q : RRaw) (i j k l : Nat) (h : (r.short && q.short) = false) : Spec Tryz.prog G 6 [r.dat, q.dat, parts4 i j k l] (bool true) := by
  have s := short_two (G := G) hG r q
  rw [h] at s
  exact Spec.of_run hG Tryz.func6 (ro := [3, 4, 5]) (m := 60) [.call s, .call (awake_spec hG)] (by kernel_rfl)
theorem Inside_bad1 (hG : Steady G) (r q : RRaw) (i j k l : Nat) (h : (r.short && q.short) = true) (hv : Spec Tryz.prog G 18 [r.dat] (bool false)) : Spec Tryz.prog G 6 [r.dat, q.dat, parts4 i j k l] (bool true) := by
  have s := short_two (G := G) hG r q
  rw [h] at s
  exact Spec.of_run hG Tryz.func6 (ro := [3, 4, 5]) (m := 60) [.call s, .call hv, .call (awake_spec hG)] (by kernel_rfl)
theorem Inside_bad2 (hG : Steady G) (r q : RRaw) (i j k l : Nat) (h : (r.short && q.short) = true) (hu : Spec Tryz.prog G 18 [r.dat] (bool true)) (hv : Spec Tryz.prog G 18 [q.dat] (bool false)) : Spec Tryz.prog G 6 [r.dat, q.dat, parts4 i j k l] (bool true) := by
  have s := short_two (G := G) hG r q
  rw [h] at s
  exact Spec.of_run hG Tryz.func6 (ro := [3, 4, 5]) (m := 60) [.call s, .call hu, .call hv, .call (awake_spec hG)] (by kernel_rfl)
/-- Division, by the two cases. -/
def quoD (a b c d : Rat) : D := .tup [FR (mulLo a b (((1 : Int) : Rat) / d) (((1 : Int) : Rat) / c)) (mulHi a b (((1 : Int) : Rat) / d) (((1 : Int) : Rat) / c)), .lit .nilIface]
theorem root_any (hG : Steady G) {k : Nat} {x : D} {a b : Rat} (hx : IsI k x a b) (hk : k ≤ 100) : ∃ z1 z2 ze, Spec Tryz.prog G 13 [x, nat 8] (.tup [FR z1 z2, .lit ze]) := by
  have kb := KB_eq
  have rk := RK_eq
  by_cases h0 : a < 0
  · exact ⟨_, _, _, IRoot_low (b := 8) hG hx (by omega) (by omega) h0⟩
  · exact ⟨_, _, _, IRoot_spec (b := 8) hG hx (by omega) (by omega) (rat_le_neg h0)⟩
theorem root_in (hG : Steady G) {k l : Nat} {x y : D} {a b a' b' : Rat} (hx : IsI k x a b) (hy : IsI l y a' b') (hk : k ≤ 100 ∧ l ≤ 100) (h0 : 0 ≤ a) (h1 : a ≤ a') (h2 : b' ≤ b) :
    Spec Tryz.prog G 32 [FR (rootLo a' 8) (rootHi b' 8), FR (rootLo a 8) (rootHi b 8)] (bool true) := by
  have kb := KB_eq
  have rk := RK_eq
  have h0' := Rat.le_trans h0 h1
  obtain ⟨t1, t2⟩ := SzQ.root (b := 8) hx.szL.1 hx.szL.2 (Rat.le_trans h0 hx.le) (by omega)
  obtain ⟨u1, u2⟩ := SzQ.root (b := 8) hy.szL.1 hy.szL.2 (Rat.le_trans h0' hy.le) (by omega)
  have n := Inside_spec (G := G) hG (FR_isI u1 u2 (root_order 8 h0' hy.le)) (FR_isI t1 t2 (root_order 8 h0 hx.le)) (by omega) (by omega)
  rw [decide_eq_true ⟨rootLo_mono h0 h1 8, rootHi_mono (Rat.le_trans h0' hy.le) h2 8⟩] at n
  exact n
theorem Inside_fits (hG : Steady G) {r q : RRaw} (hr : r.digs) (hq : q.digs) (h : (r.short && q.short) = true) (hv1 : r.valid = true) (hv2 : q.valid = true) {i j k l : Nat} (bi : i < 256) (bj : j < 256) (bk : k < 256) (bl : l < 256) :
    Spec Tryz.prog G 6 [r.dat, q.dat, parts4 i j k l] (bool true) := by
  have s := short_two (G := G) hG r q
  rw [h] at s
  simp only [Bool.and_eq_true] at h
  have kb := KB_eq
  have rk := RK_eq
  have okr := RRaw.short_ok hr h.1
  have okq := RRaw.short_ok hq h.2
  have v1 := RIValid_spec (G := G) hG okr (by omega)
  have v2 := RIValid_spec (G := G) hG okq (by omega)
  rw [hv1] at v1
  rw [hv2] at v2
  have aw := awake_spec (G := G) hG
  have hx := RRaw.isI okr
  have hy := RRaw.isI okq
  have w1 := within_spec (G := G) hG okr hv1 (n := min i j) (by omega)
  have w2 := within_spec (G := G) hG okr hv1 (n := max i j) (by omega)
  have w3 := within_spec (G := G) hG okq hv2 (n := min k l) (by omega)
  have w4 := within_spec (G := G) hG okq hv2 (n := max k l) (by omega)
  have s1 := SzQ.way hx.szL.1 hx.szL.2 (n := min i j) (by omega)
  have s2 := SzQ.way hx.szL.1 hx.szL.2 (n := max i j) (by omega)
  have s3 := SzQ.way hy.szL.1 hy.szL.2 (n := min k l) (by omega)
  have s4 := SzQ.way hy.szL.1 hy.szL.2 (n := max k l) (by omega)
  have i1 := (wayQ_in hx.le (n := min i j) (by omega)).1
  have i2 := wayQ_mono hx.le (show min i j ≤ max i j by omega)
  have i3 := (wayQ_in hx.le (n := max i j) (by omega)).2
  have i4 := (wayQ_in hy.le (n := min k l) (by omega)).1
  have i5 := wayQ_mono hy.le (show min k l ≤ max k l by omega)
  have i6 := (wayQ_in hy.le (n := max k l) (by omega)).2
  generalize r.L = a at *
  generalize r.H = b at *
  generalize q.L = c at *
  generalize q.H = d at *
  generalize wayQ a b (min i j) = a' at *
  generalize wayQ a b (max i j) = b' at *
  generalize wayQ c d (min k l) = c' at *
  generalize wayQ c d (max k l) = d' at *
  have mk1 := IMake_ok (G := G) hG s1.isQ s2.isQ (by omega) (by omega) i2
  have mk2 := IMake_ok (G := G) hG s3.isQ s4.isQ (by omega) (by omega) i5
  have hx' := FR_isI s1 s2 i2
  have hy' := FR_isI s3 s4 i5
  have n1 := Inside_spec (G := G) hG hx' hx (by omega) (by omega)
  have n2 := Inside_spec (G := G) hG hy' hy (by omega) (by omega)
  have ad1 := IAdd_spec (G := G) hG hx' hy' (by omega) (by omega)
  have ad2 := IAdd_spec (G := G) hG hx hy (by omega) (by omega)
  have n3 := Inside_spec (G := G) hG (hx'.add hy') (hx.add hy) (by omega) (by omega)
  have sb1 := ISub_spec (G := G) hG hx' hy' (by omega) (by omega)
  have sb2 := ISub_spec (G := G) hG hx hy (by omega) (by omega)
  have n4 := Inside_spec (G := G) hG (hx'.sub hy') (hx.sub hy) (by omega) (by omega)
  have ml1 := IMul_spec (G := G) hG hx' hy' (by omega)
  have ml2 := IMul_spec (G := G) hG hx hy (by omega)
  have n5 := Inside_spec (G := G) hG (hx'.mul hy') (hx.mul hy) (by omega) (by omega)
  have hu1 := IHull_spec (G := G) hG hx' hy' (by omega) (by omega)
  have hu2 := IHull_spec (G := G) hG hx hy (by omega) (by omega)
  have n6 := Inside_spec (G := G) hG (hx'.hull hy') (hx.hull hy) (by omega) (by omega)
  have t5 := mul_inside i1 i2 i3 i4 i5 i6
  have t6 := hull_inside i1 i3 i4 i6
  rw [decide_eq_true ⟨i1, i3⟩] at n1
  rw [decide_eq_true ⟨i4, i6⟩] at n2
  rw [decide_eq_true ⟨rat_add_le i1 i4, rat_add_le i3 i6⟩] at n3
  rw [decide_eq_true ⟨by grind, by grind⟩] at n4
  rw [decide_eq_true t5] at n5
  rw [decide_eq_true t6] at n6
  have hab' : a ≤ b := hx.le
  by_cases hc : c ≤ 0 ∧ 0 ≤ d
  · have dv1 := IDiv_zero hG hx hy (by omega) hc
    obtain ⟨y1, y2, ye, dv2⟩ : ∃ y1 y2 ye, Spec Tryz.prog G 33 [FR a' b', FR c' d'] (.tup [FR y1 y2, .lit ye]) := by
      by_cases hc' : c' ≤ 0 ∧ 0 ≤ d'
      · exact ⟨_, _, _, IDiv_zero hG hx' hy' (by omega) hc'⟩
      · exact ⟨_, _, _, IDiv_spec hG hx' hy' (by omega) hc'⟩
    by_cases h0 : a < 0
    · have rt1 := IRoot_low (b := 8) hG hx (by omega) (by omega) h0
      obtain ⟨z1, z2, ze, rt2⟩ := root_any (G := G) hG hx' (by omega)
      exact Spec.of_run hG Tryz.func6 (ro := [3, 4, 5]) (m := 60)
        [.call s, .call v1, .call v2, .call aw, .eq 45 (u8_min i j), .call w1, .eq 52 (u8_max i j), .call w2, .call mk1, .eq 63 (u8_min k l), .call w3, .eq 70 (u8_max k l), .call w4, .call mk2, .call n1, .call n2, .call dv1, .call dv2, .call rt1, .call rt2, .call ad1, .call ad2, .call n3, .call sb1, .call sb2, .call n4, .call ml1, .call ml2, .call n5, .call hu1, .call hu2, .call n6] (by kernel_rfl)
    · have h0' := rat_le_neg h0
      have rt1 := IRoot_spec (b := 8) hG hx (by omega) (by omega) h0'
      have rt2 := IRoot_spec (b := 8) hG hx' (by omega) (by omega) (Rat.le_trans h0' i1)
      have nr := root_in (G := G) hG hx hx' (by omega) h0' i1 i3
      exact Spec.of_run hG Tryz.func6 (ro := [3, 4, 5]) (m := 60)
        [.call s, .call v1, .call v2, .call aw, .eq 45 (u8_min i j), .call w1, .eq 52 (u8_max i j), .call w2, .call mk1, .eq 63 (u8_min k l), .call w3, .eq 70 (u8_max k l), .call w4, .call mk2, .call n1, .call n2, .call dv1, .call dv2, .call rt1, .call rt2, .call nr, .call ad1, .call ad2, .call n3, .call sb1, .call sb2, .call n4, .call ml1, .call ml2, .call n5, .call hu1, .call hu2, .call n6] (by kernel_rfl)
  · have dv1 := IDiv_spec hG hx hy (by omega) hc
    have hc' := apart_in hc i4 i6
    have dv2 := IDiv_spec hG hx' hy' (by omega) hc'
    have nq := Inside_spec (G := G) hG (hx'.mul (hy'.inv hc')) (hx.mul (hy.inv hc)) (by omega) (by omega)
    obtain ⟨j1, j2, j3⟩ := inv_inside hc i4 i5 i6
    rw [decide_eq_true (mul_inside i1 i2 i3 j1 j2 j3)] at nq
    by_cases h0 : a < 0
    · have rt1 := IRoot_low (b := 8) hG hx (by omega) (by omega) h0
      obtain ⟨z1, z2, ze, rt2⟩ := root_any (G := G) hG hx' (by omega)
      exact Spec.of_run hG Tryz.func6 (ro := [3, 4, 5]) (m := 60)
        [.call s, .call v1, .call v2, .call aw, .eq 45 (u8_min i j), .call w1, .eq 52 (u8_max i j), .call w2, .call mk1, .eq 63 (u8_min k l), .call w3, .eq 70 (u8_max k l), .call w4, .call mk2, .call n1, .call n2, .call dv1, .call dv2, .call nq, .call rt1, .call rt2, .call ad1, .call ad2, .call n3, .call sb1, .call sb2, .call n4, .call ml1, .call ml2, .call n5, .call hu1, .call hu2, .call n6] (by kernel_rfl)
    · have h0' := rat_le_neg h0
      have rt1 := IRoot_spec (b := 8) hG hx (by omega) (by omega) h0'
      have rt2 := IRoot_spec (b := 8) hG hx' (by omega) (by omega) (Rat.le_trans h0' i1)
      have nr := root_in (G := G) hG hx hx' (by omega) h0' i1 i3
      exact Spec.of_run hG Tryz.func6 (ro := [3, 4, 5]) (m := 60)
        [.call s, .call v1, .call v2, .call aw, .eq 45 (u8_min i j), .call w1, .eq 52 (u8_max i j), .call w2, .call mk1, .eq 63 (u8_min k l), .call w3, .eq 70 (u8_max k l), .call w4, .call mk2, .call n1, .call n2, .call dv1, .call dv2, .call nq, .call rt1, .call rt2, .call nr, .call ad1, .call ad2, .call n3, .call sb1, .call sb2, .call n4, .call ml1, .call ml2, .call n5, .call hu1, .call hu2, .call n6] (by kernel_rfl)
theorem Insides_spec (hG : Steady G) {r q : RRaw} (hr : r.digs) (hq : q.digs) {i j k l : Nat} (bi : i < 256) (bj : j < 256) (bk : k < 256) (bl : l < 256) :
    Spec Tryz.prog G 6 [r.dat, q.dat, parts4 i j k l] (bool true) := by
  cases hs : (r.short && q.short) with
  | false => exact Inside_long hG r q i j k l hs
  | true =>
    have hs' := hs
    simp only [Bool.and_eq_true] at hs
    have kb := KB_eq
    have v1 := RIValid_spec (G := G) hG (RRaw.short_ok hr hs.1) (by omega)
    have v2 := RIValid_spec (G := G) hG (RRaw.short_ok hq hs.2) (by omega)
    cases hv1 : r.valid with
    | false => rw [hv1] at v1; exact Inside_bad1 hG r q i j k l hs' v1
    | true =>
      rw [hv1] at v1
      cases hv2 : q.valid with
      | false => rw [hv2] at v2; exact Inside_bad2 hG r q i j k l hs' v1 v2
      | true => exact Inside_fits hG hr hq hs' hv1 hv2 bi bj bk bl
end Lw

namespace Lw
open Go Go.RowKit Go.Proofs

variable {G : World → Prop}

def parts2 (a b : Nat) : D := .agg [u8 a, u8 b]
theorem Con_long (hG : Steady G) (r q : RRaw) (i j : Nat) (h : (r.short && q.short) = false) : Spec Tryz.prog G 9 [r.dat, q.dat, parts2 i j] (bool true) := by
  have s := short_two (G := G) hG r q
  rw [h] at s
  exact Spec.of_run hG Tryz.func9 (ro := [3, 4, 5]) (m := 60) [.call s, .call (awake_spec hG)] (by kernel_rfl)
theorem Con_bad1 (hG : Steady G) (r q : RRaw) (i j : Nat) (h : (r.short && q.short) = true) (hv : Spec Tryz.prog G 18 [r.dat] (bool false)) : Spec Tryz.prog G 9 [r.dat, q.dat, parts2 i j] (bool true) := by
  have s := short_two (G := G) hG r q
  rw [h] at s
  exact Spec.of_run hG Tryz.func9 (ro := [3, 4, 5]) (m := 60) [.call s, .call hv, .call (awake_spec hG)] (by kernel_rfl)
theorem Con_bad2 (hG : Steady G) (r q : RRaw) (i j : Nat) (h : (r.short && q.short) = true) (hu : Spec Tryz.prog G 18 [r.dat] (bool true)) (hv : Spec Tryz.prog G 18 [q.dat] (bool false)) : Spec Tryz.prog G 9 [r.dat, q.dat, parts2 i j] (bool true) := by
  have s := short_two (G := G) hG r q
  rw [h] at s
  exact Spec.of_run hG Tryz.func9 (ro := [3, 4, 5]) (m := 60) [.call s, .call hu, .call hv, .call (awake_spec hG)] (by kernel_rfl)
theorem mid_in {a b : Rat} (h : a ≤ b) : a ≤ Rat.divInt 1 2 * (a + b) ∧ Rat.divInt 1 2 * (a + b) ≤ b := by
  have h2 : Rat.divInt 1 2 + Rat.divInt 1 2 = 1 := by decide +kernel
  have h0 : 0 ≤ Rat.divInt 1 2 := by decide +kernel
  generalize Rat.divInt 1 2 = t at *
  have e1 : (t + t) * a = a := by rw [h2, Rat.one_mul]
  have e2 : (t + t) * b = b := by rw [h2, Rat.one_mul]
  have e3 := Rat.mul_le_mul_of_nonneg_left h h0
  constructor
  · grind
  · grind
theorem quo_eq (x y : Rat) : x / y = x * (((1 : Int) : Rat) / y) := by
  rw [Rat.div_def, Rat.div_def]
  show x * y⁻¹ = x * ((1 : Rat) * y⁻¹)
  rw [Rat.one_mul]
theorem quo_in {a b c d x y : Rat} (hc : ¬ (c ≤ 0 ∧ 0 ≤ d)) (h1 : a ≤ x) (h2 : x ≤ b) (h3 : c ≤ y) (h4 : y ≤ d) :
    mulLo a b (((1 : Int) : Rat) / d) (((1 : Int) : Rat) / c) ≤ x / y ∧ x / y ≤ mulHi a b (((1 : Int) : Rat) / d) (((1 : Int) : Rat) / c) := by
  obtain ⟨j1, -, j3⟩ := inv_inside hc h3 (Rat.le_refl) h4
  rw [quo_eq x y]
  exact mul_in h1 h2 j1 j3
theorem Con_fits (hG : Steady G) {r q : RRaw} (hr : r.digs) (hq : q.digs) (h : (r.short && q.short) = true) (hv1 : r.valid = true) (hv2 : q.valid = true) {i j : Nat} (bi : i < 256) (bj : j < 256) :
    Spec Tryz.prog G 9 [r.dat, q.dat, parts2 i j] (bool true) := by
  have s := short_two (G := G) hG r q
  rw [h] at s
  simp only [Bool.and_eq_true] at h
  have kb := KB_eq
  have okr := RRaw.short_ok hr h.1
  have okq := RRaw.short_ok hq h.2
  have v1 := RIValid_spec (G := G) hG okr (by omega)
  have v2 := RIValid_spec (G := G) hG okq (by omega)
  rw [hv1] at v1
  rw [hv2] at v2
  have aw := awake_spec (G := G) hG
  have hx := RRaw.isI okr
  have hy := RRaw.isI okq
  have w1 := within_spec (G := G) hG okr hv1 (n := i) bi
  have w2 := within_spec (G := G) hG okq hv2 (n := j) bj
  have s1 := SzQ.way hx.szL.1 hx.szL.2 (n := i) bi
  have s2 := SzQ.way hy.szL.1 hy.szL.2 (n := j) bj
  obtain ⟨x1, x2⟩ := wayQ_in hx.le (n := i) bi
  obtain ⟨y1, y2⟩ := wayQ_in hy.le (n := j) bj
  obtain ⟨z1, -⟩ := RRaw.lo_of hv1
  obtain ⟨z3, -⟩ := RRaw.lo_of hv2
  have qa : IsQ 8 r.lo.dat r.L := by rw [z1]; exact Raw.ok.isQ okr.1
  have qc : IsQ 8 q.lo.dat q.L := by rw [z3]; exact Raw.ok.isQ okq.1
  clear z1 z3
  generalize r.L = a at *
  generalize r.H = b at *
  generalize q.L = c at *
  generalize q.H = d at *
  generalize wayQ a b i = x at *
  generalize wayQ c d j = y at *
  have hab := hx.le
  have hcd := hy.le
  have ng := INeg_spec (G := G) hG hx (by omega)
  have nx := FNeg_spec (G := G) hG s1.isQ (by omega)
  have k1 := Contains_spec (G := G) hG hx.neg s1.neg.isQ (by omega) (by omega)
  rw [and_true (Rat.neg_le_neg x2) (Rat.neg_le_neg x1)] at k1
  have ad := IAdd_spec (G := G) hG hx hy (by omega) (by omega)
  have ax := FAdd_spec (G := G) hG s1.isQ s2.isQ (by omega) (by omega)
  have k2 := Contains_spec (G := G) hG (hx.add hy) (s1.add s2).isQ (by omega) (by omega)
  rw [and_true (rat_add_le x1 y1) (rat_add_le x2 y2)] at k2
  have sb := ISub_spec (G := G) hG hx hy (by omega) (by omega)
  have sx := FSub_spec (G := G) hG s1.isQ s2.isQ (by omega) (by omega)
  have k3 := Contains_spec (G := G) hG (hx.sub hy) (s1.sub s2).isQ (by omega) (by omega)
  rw [and_true (p := a - d ≤ x - y) (q := x - y ≤ b - c) (by grind) (by grind)] at k3
  have ml := IMul_spec (G := G) hG hx hy (by omega)
  have mx := FMul_spec (G := G) hG s1.isQ s2.isQ (by omega) (by omega)
  have k4 := Contains_spec (G := G) hG (hx.mul hy) (s1.mul s2).isQ (by omega) (by omega)
  obtain ⟨m1, m2⟩ := mul_in x1 x2 y1 y2
  rw [and_true m1 m2] at k4
  have hu := IHull_spec (G := G) hG hx hy (by omega) (by omega)
  have k5 := Contains_spec (G := G) hG (hx.hull hy) s1.isQ (by omega) (by omega)
  rw [and_true (Rat.le_trans (rmin_le_l a c) x1) (Rat.le_trans x2 (le_rmax_l b d))] at k5
  have md := Mid_spec (G := G) hG hx (by omega)
  have k6 := Contains_spec (G := G) hG hx (sz_half.mul (hx.szL.1.add hx.szL.2)).isQ (by omega) (by omega)
  obtain ⟨d1, d2⟩ := mid_in hab
  rw [and_true d1 d2] at k6
  have ca := Contains_spec (G := G) hG hx qc (by omega) (by omega)
  have cb := Contains_spec (G := G) hG hy qa (by omega) (by omega)
  have ie := Is_err (G := G) hG 8 8
  have cz := Contains_spec (G := G) hG hy isQ_zero (by omega) (by omega)
  have cx := Contains_spec (G := G) hG hy s1.isQ (by omega) (by omega)
  by_cases hA : a ≤ c ∧ c ≤ b
  · rw [and_true hA.1 hA.2] at ca
    have hm : max a c ≤ min b d := rmax_le (le_rmin hab (Rat.le_trans hA.1 hcd)) (le_rmin hA.2 hcd)
    have mt := IMeet_ok hG hx hy (by omega) hm
    have cm := Contains_spec (G := G) hG (FR_isI (hx.szL.1.max hy.szL.1) (hx.szL.2.min hy.szL.2) hm) s1.isQ (by omega) (by omega)
    by_cases hX : c ≤ x ∧ x ≤ d
    · rw [and_true hX.1 hX.2] at cx
      rw [and_true (rmax_le x1 hX.1) (le_rmin x2 hX.2)] at cm
      by_cases hc : c ≤ 0 ∧ 0 ≤ d
      · have dv := IDiv_zero hG hx hy (by omega) hc
        rw [and_true hc.1 hc.2] at cz
        exact Spec.of_run hG Tryz.func9 (ro := [3, 4, 5]) (m := 60)
          [.call s, .call v1, .call v2, .call aw, .call w1, .call w2, .call ng, .call nx, .call k1, .call ad, .call ax, .call k2, .call sb, .call sx, .call k3, .call ml, .call mx, .call k4, .call hu, .call k5, .call md, .call k6, .call mt, .call ca, .call cm, .call cx, .call dv, .call ie, .call cz] (by kernel_rfl)
      · have dv := IDiv_spec hG hx hy (by omega) hc
        have fd := FDiv_spec (G := G) hG s1.isQ s2.isQ (by omega) (by omega) (fun e => hc ⟨by rw [← e]; exact y1, by rw [← e]; exact y2⟩)
        have kq := Contains_spec (G := G) hG (hx.mul (hy.inv hc)) (s1.div s2).isQ (by omega) (by omega)
        obtain ⟨t1, t2⟩ := quo_in hc x1 x2 y1 y2
        rw [and_true t1 t2] at kq
        exact Spec.of_run hG Tryz.func9 (ro := [3, 4, 5]) (m := 60)
          [.call s, .call v1, .call v2, .call aw, .call w1, .call w2, .call ng, .call nx, .call k1, .call ad, .call ax, .call k2, .call sb, .call sx, .call k3, .call ml, .call mx, .call k4, .call hu, .call k5, .call md, .call k6, .call mt, .call ca, .call cm, .call cx, .call dv, .call fd, .call kq] (by kernel_rfl)
    · have hX' : (decide (c ≤ x) && decide (x ≤ d)) = false := by rw [← Bool.decide_and]; exact decide_eq_false hX
      have hX2 : (decide (max a c ≤ x) && decide (x ≤ min b d)) = false := by rw [← Bool.decide_and]; exact decide_eq_false fun g => hX ⟨Rat.le_trans (le_rmax_r a c) g.1, Rat.le_trans g.2 (rmin_le_r b d)⟩
      rw [hX'] at cx
      rw [hX2] at cm
      by_cases hc : c ≤ 0 ∧ 0 ≤ d
      · have dv := IDiv_zero hG hx hy (by omega) hc
        rw [and_true hc.1 hc.2] at cz
        exact Spec.of_run hG Tryz.func9 (ro := [3, 4, 5]) (m := 60)
          [.call s, .call v1, .call v2, .call aw, .call w1, .call w2, .call ng, .call nx, .call k1, .call ad, .call ax, .call k2, .call sb, .call sx, .call k3, .call ml, .call mx, .call k4, .call hu, .call k5, .call md, .call k6, .call mt, .call ca, .call cm, .call cx, .call dv, .call ie, .call cz] (by kernel_rfl)
      · have dv := IDiv_spec hG hx hy (by omega) hc
        have fd := FDiv_spec (G := G) hG s1.isQ s2.isQ (by omega) (by omega) (fun e => hc ⟨by rw [← e]; exact y1, by rw [← e]; exact y2⟩)
        have kq := Contains_spec (G := G) hG (hx.mul (hy.inv hc)) (s1.div s2).isQ (by omega) (by omega)
        obtain ⟨t1, t2⟩ := quo_in hc x1 x2 y1 y2
        rw [and_true t1 t2] at kq
        exact Spec.of_run hG Tryz.func9 (ro := [3, 4, 5]) (m := 60)
          [.call s, .call v1, .call v2, .call aw, .call w1, .call w2, .call ng, .call nx, .call k1, .call ad, .call ax, .call k2, .call sb, .call sx, .call k3, .call ml, .call mx, .call k4, .call hu, .call k5, .call md, .call k6, .call mt, .call ca, .call cm, .call cx, .call dv, .call fd, .call kq] (by kernel_rfl)
  · have hA' : (decide (a ≤ c) && decide (c ≤ b)) = false := by rw [← Bool.decide_and]; exact decide_eq_false hA
    rw [hA'] at ca
    by_cases hB : c ≤ a ∧ a ≤ d
    · rw [and_true hB.1 hB.2] at cb
      have hm : max a c ≤ min b d := rmax_le (le_rmin hab hB.2) (le_rmin (Rat.le_trans hB.1 hab) hcd)
      have mt := IMeet_ok hG hx hy (by omega) hm
      have cm := Contains_spec (G := G) hG (FR_isI (hx.szL.1.max hy.szL.1) (hx.szL.2.min hy.szL.2) hm) s1.isQ (by omega) (by omega)
      by_cases hX : c ≤ x ∧ x ≤ d
      · rw [and_true hX.1 hX.2] at cx
        rw [and_true (rmax_le x1 hX.1) (le_rmin x2 hX.2)] at cm
        by_cases hc : c ≤ 0 ∧ 0 ≤ d
        · have dv := IDiv_zero hG hx hy (by omega) hc
          rw [and_true hc.1 hc.2] at cz
          exact Spec.of_run hG Tryz.func9 (ro := [3, 4, 5]) (m := 60)
            [.call s, .call v1, .call v2, .call aw, .call w1, .call w2, .call ng, .call nx, .call k1, .call ad, .call ax, .call k2, .call sb, .call sx, .call k3, .call ml, .call mx, .call k4, .call hu, .call k5, .call md, .call k6, .call mt, .call ca, .call cb, .call cm, .call cx, .call dv, .call ie, .call cz] (by kernel_rfl)
        · have dv := IDiv_spec hG hx hy (by omega) hc
          have fd := FDiv_spec (G := G) hG s1.isQ s2.isQ (by omega) (by omega) (fun e => hc ⟨by rw [← e]; exact y1, by rw [← e]; exact y2⟩)
          have kq := Contains_spec (G := G) hG (hx.mul (hy.inv hc)) (s1.div s2).isQ (by omega) (by omega)
          obtain ⟨t1, t2⟩ := quo_in hc x1 x2 y1 y2
          rw [and_true t1 t2] at kq
          exact Spec.of_run hG Tryz.func9 (ro := [3, 4, 5]) (m := 60)
            [.call s, .call v1, .call v2, .call aw, .call w1, .call w2, .call ng, .call nx, .call k1, .call ad, .call ax, .call k2, .call sb, .call sx, .call k3, .call ml, .call mx, .call k4, .call hu, .call k5, .call md, .call k6, .call mt, .call ca, .call cb, .call cm, .call cx, .call dv, .call fd, .call kq] (by kernel_rfl)
      · have hX' : (decide (c ≤ x) && decide (x ≤ d)) = false := by rw [← Bool.decide_and]; exact decide_eq_false hX
        have hX2 : (decide (max a c ≤ x) && decide (x ≤ min b d)) = false := by rw [← Bool.decide_and]; exact decide_eq_false fun g => hX ⟨Rat.le_trans (le_rmax_r a c) g.1, Rat.le_trans g.2 (rmin_le_r b d)⟩
        rw [hX'] at cx
        rw [hX2] at cm
        by_cases hc : c ≤ 0 ∧ 0 ≤ d
        · have dv := IDiv_zero hG hx hy (by omega) hc
          rw [and_true hc.1 hc.2] at cz
          exact Spec.of_run hG Tryz.func9 (ro := [3, 4, 5]) (m := 60)
            [.call s, .call v1, .call v2, .call aw, .call w1, .call w2, .call ng, .call nx, .call k1, .call ad, .call ax, .call k2, .call sb, .call sx, .call k3, .call ml, .call mx, .call k4, .call hu, .call k5, .call md, .call k6, .call mt, .call ca, .call cb, .call cm, .call cx, .call dv, .call ie, .call cz] (by kernel_rfl)
        · have dv := IDiv_spec hG hx hy (by omega) hc
          have fd := FDiv_spec (G := G) hG s1.isQ s2.isQ (by omega) (by omega) (fun e => hc ⟨by rw [← e]; exact y1, by rw [← e]; exact y2⟩)
          have kq := Contains_spec (G := G) hG (hx.mul (hy.inv hc)) (s1.div s2).isQ (by omega) (by omega)
          obtain ⟨t1, t2⟩ := quo_in hc x1 x2 y1 y2
          rw [and_true t1 t2] at kq
          exact Spec.of_run hG Tryz.func9 (ro := [3, 4, 5]) (m := 60)
            [.call s, .call v1, .call v2, .call aw, .call w1, .call w2, .call ng, .call nx, .call k1, .call ad, .call ax, .call k2, .call sb, .call sx, .call k3, .call ml, .call mx, .call k4, .call hu, .call k5, .call md, .call k6, .call mt, .call ca, .call cb, .call cm, .call cx, .call dv, .call fd, .call kq] (by kernel_rfl)
    · have hB' : (decide (c ≤ a) && decide (a ≤ d)) = false := by rw [← Bool.decide_and]; exact decide_eq_false hB
      rw [hB'] at cb
      have hm : ¬ max a c ≤ min b d := fun hm => by
        have g1 : a ≤ d := Rat.le_trans (le_rmax_l a c) (Rat.le_trans hm (rmin_le_r b d))
        have g2 : c ≤ b := Rat.le_trans (le_rmax_r a c) (Rat.le_trans hm (rmin_le_l b d))
        rcases Rat.le_total (a := a) (b := c) with g | g
        · exact hA ⟨g, g2⟩
        · exact hB ⟨g, g1⟩
      have mt := IMeet_bad hG hx hy (by omega) hm
      by_cases hc : c ≤ 0 ∧ 0 ≤ d
      · have dv := IDiv_zero hG hx hy (by omega) hc
        rw [and_true hc.1 hc.2] at cz
        exact Spec.of_run hG Tryz.func9 (ro := [3, 4, 5]) (m := 60)
          [.call s, .call v1, .call v2, .call aw, .call w1, .call w2, .call ng, .call nx, .call k1, .call ad, .call ax, .call k2, .call sb, .call sx, .call k3, .call ml, .call mx, .call k4, .call hu, .call k5, .call md, .call k6, .call mt, .call ca, .call cb, .call dv, .call ie, .call cz] (by kernel_rfl)
      · have dv := IDiv_spec hG hx hy (by omega) hc
        have fd := FDiv_spec (G := G) hG s1.isQ s2.isQ (by omega) (by omega) (fun e => hc ⟨by rw [← e]; exact y1, by rw [← e]; exact y2⟩)
        have kq := Contains_spec (G := G) hG (hx.mul (hy.inv hc)) (s1.div s2).isQ (by omega) (by omega)
        obtain ⟨t1, t2⟩ := quo_in hc x1 x2 y1 y2
        rw [and_true t1 t2] at kq
        exact Spec.of_run hG Tryz.func9 (ro := [3, 4, 5]) (m := 60)
          [.call s, .call v1, .call v2, .call aw, .call w1, .call w2, .call ng, .call nx, .call k1, .call ad, .call ax, .call k2, .call sb, .call sx, .call k3, .call ml, .call mx, .call k4, .call hu, .call k5, .call md, .call k6, .call mt, .call ca, .call cb, .call dv, .call fd, .call kq] (by kernel_rfl)
theorem Con_spec (hG : Steady G) {r q : RRaw} (hr : r.digs) (hq : q.digs) {i j : Nat} (bi : i < 256) (bj : j < 256) :
    Spec Tryz.prog G 9 [r.dat, q.dat, parts2 i j] (bool true) := by
  cases hs : (r.short && q.short) with
  | false => exact Con_long hG r q i j hs
  | true =>
    have hs' := hs
    simp only [Bool.and_eq_true] at hs
    have kb := KB_eq
    have v1 := RIValid_spec (G := G) hG (RRaw.short_ok hr hs.1) (by omega)
    have v2 := RIValid_spec (G := G) hG (RRaw.short_ok hq hs.2) (by omega)
    cases hv1 : r.valid with
    | false => rw [hv1] at v1; exact Con_bad1 hG r q i j hs' v1
    | true =>
      rw [hv1] at v1
      cases hv2 : q.valid with
      | false => rw [hv2] at v2; exact Con_bad2 hG r q i j hs' v1 v2
      | true => exact Con_fits hG hr hq hs' hv1 hv2 bi bj
end Lw

namespace Lw
open Go Go.RowKit Go.Proofs Go.ChangeShapes Go.WideShapes Go.ChangeAt

section
variable {H : Type} {enc : TypeId × Value → H} {W : World} {fuel : Nat} {cs : List Value} {x : DataW H × List MemPlace}

theorem cells_u8 : Tryz.prog.cellsOf 5 = 1 := by kernel_rfl
theorem u8_cell (h : DataW.trod enc Tryz.prog W 0 (fun _ => true) true fuel 5 cs = some x) : ∃ m : Nat, m < 256 ∧ cs = [.int .u8 (Int.ofNat m)] := by
  obtain ⟨n, hc, -, hw⟩ := DataW.trod_int Tryz.underlying5 h
  obtain ⟨m, rfl, hm⟩ := u8_of hw
  exact ⟨m, hm, hc⟩
theorem two_cells {α : Type} {l : List α} (h : l.length = 2) : ∃ a b, l = [a, b] := by
  match l, h with
  | [a, b], _ => exact ⟨a, b, rfl⟩
theorem four_cells {α : Type} {l : List α} (h : l.length = 4) : ∃ a b c d, l = [a, b, c, d] := by
  match l, h with
  | [a, b, c, d], _ => exact ⟨a, b, c, d, rfl⟩
theorem el_read {n m : Nat} {xs : List (DataW H × List MemPlace)} (hf : ∀ (i : Nat), i < n → DataW.trod enc Tryz.prog W 0 (fun _ => true) true m 5 ((cs.drop (i * Tryz.prog.cellsOf 5)).take (Tryz.prog.cellsOf 5)) = xs[i]?) (hn : xs.length = n) (i : Nat) (hi : i < n) :
    ∃ v : Nat, v < 256 ∧ (cs.drop i).take 1 = [.int .u8 (Int.ofNat v)] := by
  have h := hf i hi
  obtain ⟨y, e⟩ := some_of (l := xs) (i := i) (by omega)
  rw [e, cells_u8, Nat.mul_one] at h
  exact u8_cell h
theorem open_two (h : DataW.trod enc Tryz.prog W 0 (fun _ => true) true fuel 65 cs = some x) : ∃ i j : Nat, i < 256 ∧ j < 256 ∧ cs = [.int .u8 (Int.ofNat i), .int .u8 (Int.ofNat j)] := by
  obtain ⟨xs, m, -, -, hc, hn, hf⟩ := DataW.trod_array Tryz.underlying65 h
  obtain ⟨c0, c1, rfl⟩ := two_cells (hc.trans (by kernel_rfl))
  obtain ⟨i, hi, e0⟩ := el_read hf hn 0 (by omega)
  obtain ⟨j, hj, e1⟩ := el_read hf hn 1 (by omega)
  simp only [List.drop_zero, List.drop_succ_cons, List.take_succ_cons, List.take_zero, List.cons.injEq] at e0 e1
  exact ⟨i, j, hi, hj, by rw [e0.1, e1.1]⟩
theorem open_four (h : DataW.trod enc Tryz.prog W 0 (fun _ => true) true fuel 51 cs = some x) : ∃ i j k l : Nat, i < 256 ∧ j < 256 ∧ k < 256 ∧ l < 256 ∧ cs = [.int .u8 (Int.ofNat i), .int .u8 (Int.ofNat j), .int .u8 (Int.ofNat k), .int .u8 (Int.ofNat l)] := by
  obtain ⟨xs, m, -, -, hc, hn, hf⟩ := DataW.trod_array Tryz.underlying51 h
  obtain ⟨c0, c1, c2, c3, rfl⟩ := four_cells (hc.trans (by kernel_rfl))
  obtain ⟨i, hi, e0⟩ := el_read hf hn 0 (by omega)
  obtain ⟨j, hj, e1⟩ := el_read hf hn 1 (by omega)
  obtain ⟨k, hk, e2⟩ := el_read hf hn 2 (by omega)
  obtain ⟨l, hl, e3⟩ := el_read hf hn 3 (by omega)
  simp only [List.drop_zero, List.drop_succ_cons, List.take_succ_cons, List.take_zero, List.cons.injEq] at e0 e1 e2 e3
  exact ⟨i, j, k, l, hi, hj, hk, hl, by rw [e0.1, e1.1, e2.1, e3.1]⟩
theorem part2_arg {v : Value} {d : DataW H} {ps : List MemPlace} (h : DataW.Trod enc Tryz.prog W 0 (fun _ => true) true 65 v d ps) : ∃ r : Nat × Nat, (r.1 < 256 ∧ r.2 < 256) ∧ RepP W NoX v (parts2 r.1 r.2) := by
  obtain ⟨f, hf⟩ := h
  obtain ⟨i, j, hi, hj, e⟩ := open_two hf
  exact ⟨(i, j), ⟨hi, hj⟩, rep_agg (n := 0) (by rw [e]; rfl) (by rw [e]; exact Reps.cons (.lit _) (Reps.cons (.lit _) Reps.nil))⟩
theorem part4_arg {v : Value} {d : DataW H} {ps : List MemPlace} (h : DataW.Trod enc Tryz.prog W 0 (fun _ => true) true 51 v d ps) : ∃ r : Nat × Nat × Nat × Nat, (r.1 < 256 ∧ r.2.1 < 256 ∧ r.2.2.1 < 256 ∧ r.2.2.2 < 256) ∧ RepP W NoX v (parts4 r.1 r.2.1 r.2.2.1 r.2.2.2) := by
  obtain ⟨f, hf⟩ := h
  obtain ⟨i, j, k, l, hi, hj, hk, hl, e⟩ := open_four hf
  exact ⟨(i, j, k, l), ⟨hi, hj, hk, hl⟩, rep_agg (n := 2) (by rw [e]; rfl) (by rw [e]; exact Reps.cons (.lit _) (Reps.cons (.lit _) (Reps.cons (.lit _) (Reps.cons (.lit _) Reps.nil))))⟩
end
end Lw
