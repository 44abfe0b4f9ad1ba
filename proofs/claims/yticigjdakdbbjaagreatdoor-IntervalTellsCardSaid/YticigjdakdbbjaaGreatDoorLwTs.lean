/- The statements about results inside of results, run. No condition. -/
import Derived.Test.YticigjdakdbbjaaGreatDoorLwTr
namespace Lw
open Go Go.RowKit Go.Proofs

variable {G : World → Prop}

/-! ### Intervals inside of others -/
theorem mul_inside {a b c d a' b' c' d' : Rat} (h1 : a ≤ a') (h2 : a' ≤ b') (h3 : b' ≤ b) (h4 : c ≤ c') (h5 : c' ≤ d') (h6 : d' ≤ d) :
    mulLo a b c d ≤ mulLo a' b' c' d' ∧ mulHi a' b' c' d' ≤ mulHi a b c d := by
  have p1 := mul_in h1 (Rat.le_trans h2 h3) h4 (Rat.le_trans h5 h6)
  have p2 := mul_in h1 (Rat.le_trans h2 h3) (Rat.le_trans h4 h5) h6
  have p3 := mul_in (Rat.le_trans h1 h2) h3 h4 (Rat.le_trans h5 h6)
  have p4 := mul_in (Rat.le_trans h1 h2) h3 (Rat.le_trans h4 h5) h6
  constructor
  · rcases mulLo_mem a' b' c' d' with e | e | e | e
    · rw [e]; exact p1.1
    · rw [e]; exact p2.1
    · rw [e]; exact p3.1
    · rw [e]; exact p4.1
  · rcases mulHi_mem a' b' c' d' with e | e | e | e
    · rw [e]; exact p1.2
    · rw [e]; exact p2.2
    · rw [e]; exact p3.2
    · rw [e]; exact p4.2
theorem apart_in {c d x y : Rat} (h : ¬ (c ≤ 0 ∧ 0 ≤ d)) (h1 : c ≤ x) (h2 : y ≤ d) : ¬ (x ≤ 0 ∧ 0 ≤ y) := fun g => h ⟨Rat.le_trans h1 g.1, Rat.le_trans g.2 h2⟩
theorem inv_inside {c d c' d' : Rat} (h : ¬ (c ≤ 0 ∧ 0 ≤ d)) (h1 : c ≤ c') (h2 : c' ≤ d') (h3 : d' ≤ d) :
    ((1 : Int) : Rat) / d ≤ ((1 : Int) : Rat) / d' ∧ ((1 : Int) : Rat) / d' ≤ ((1 : Int) : Rat) / c' ∧ ((1 : Int) : Rat) / c' ≤ ((1 : Int) : Rat) / c :=
  ⟨(one_div_pos_le h3 (apart_in h (Rat.le_trans h1 h2) Rat.le_refl)).2.2, (one_div_pos_le h2 (apart_in h h1 h3)).2.2, (one_div_pos_le h1 (apart_in h Rat.le_refl (Rat.le_trans h2 h3))).2.2⟩
theorem isq_mono {m n : Nat} (h : m ≤ n) : isq m ≤ isq n := by
  have a := isq_le m
  have b := isq_lt n
  rcases Nat.lt_or_ge (isq n) (isq m) with c | c
  · have : (isq n + 1) * (isq n + 1) ≤ isq m * isq m := Nat.mul_le_mul c c
    omega
  · exact c
theorem isqUp_mono {s t : Int} (h0 : 0 ≤ s) (h : s ≤ t) : isqUp s ≤ isqUp t := by
  obtain ⟨a1, a2, a3⟩ := isqUp_says h0
  obtain ⟨b1, b2, b3⟩ := isqUp_says (Int.le_trans h0 h)
  by_cases c : isqUp t < isqUp s
  · rcases a3 with a3 | a3
    · omega
    · have : isqUp t * isqUp t ≤ (isqUp s - 1) * (isqUp s - 1) := Int.mul_le_mul (by omega) (by omega) b1 (by omega)
      omega
  · omega
theorem div_mono {a b s : Rat} (h : a ≤ b) (hs : 0 < s) : a / s ≤ b / s := by
  rw [Rat.div_def, Rat.div_def]
  exact Rat.mul_le_mul_of_nonneg_right h (Rat.le_of_lt (Rat.inv_pos.2 hs))
theorem rootLo_mono {a b : Rat} (h0 : 0 ≤ a) (h : a ≤ b) (n : Nat) : rootLo a n ≤ rootLo b n := by
  have hs := sqQ_pos n
  have h1 : a * sqQ n ≤ b * sqQ n := Rat.mul_le_mul_of_nonneg_right h (Rat.le_of_lt hs)
  have h2 : 0 ≤ a * sqQ n := Rat.mul_nonneg h0 (Rat.le_of_lt hs)
  have f0 : 0 ≤ (a * sqQ n).floor := Rat.le_floor_iff.2 h2
  have f1 : (a * sqQ n).floor ≤ (b * sqQ n).floor := Rat.floor_monotone h1
  unfold rootLo
  refine div_mono (Rat.intCast_le_intCast.2 ?_) (twoQ_pos n)
  have := isq_mono (m := (a * sqQ n).floor.natAbs) (n := (b * sqQ n).floor.natAbs) (by omega)
  omega
theorem rootHi_mono {a b : Rat} (h0 : 0 ≤ a) (h : a ≤ b) (n : Nat) : rootHi a n ≤ rootHi b n := by
  have hs := sqQ_pos n
  have h1 : a * sqQ n ≤ b * sqQ n := Rat.mul_le_mul_of_nonneg_right h (Rat.le_of_lt hs)
  have h2 : 0 ≤ a * sqQ n := Rat.mul_nonneg h0 (Rat.le_of_lt hs)
  have f0 := (ceil_facts h2).1
  have f1 : (-(b * sqQ n)).floor ≤ (-(a * sqQ n)).floor := Rat.floor_monotone (Rat.neg_le_neg h1)
  unfold rootHi
  exact div_mono (Rat.intCast_le_intCast.2 (isqUp_mono f0 (by omega))) (twoQ_pos n)
theorem and_true {p q : Prop} [Decidable p] [Decidable q] (h : p) (h2 : q) : (decide p && decide q) = true := by rw [decide_eq_true h, decide_eq_true h2]; rfl
theorem IsI.sub {k l : Nat} {x y : D} {a b c d : Rat} (hx : IsI k x a b) (hy : IsI l y c d) : IsI (k + l + 1) (FR (a - d) (b - c)) (a - d) (b - c) :=
  FR_isI (hx.szL.1.sub hy.szL.2) (hx.szL.2.sub hy.szL.1) (by have := hx.le; have := hy.le; grind)
theorem IsI.add {k l : Nat} {x y : D} {a b c d : Rat} (hx : IsI k x a b) (hy : IsI l y c d) : IsI (k + l + 1) (FR (a + c) (b + d)) (a + c) (b + d) :=
  FR_isI (hx.szL.1.add hy.szL.1) (hx.szL.2.add hy.szL.2) (by have := hx.le; have := hy.le; grind)
theorem mulLo_le_hi {a b c d : Rat} (h1 : a ≤ b) (h2 : c ≤ d) : mulLo a b c d ≤ mulHi a b c d := by
  have := mul_in (Rat.le_refl (a := a)) h1 (Rat.le_refl (a := c)) h2
  exact Rat.le_trans this.1 this.2
theorem IsI.mul {k l : Nat} {x y : D} {a b c d : Rat} (hx : IsI k x a b) (hy : IsI l y c d) : IsI (k + l) (FR (mulLo a b c d) (mulHi a b c d)) (mulLo a b c d) (mulHi a b c d) :=
  FR_isI (SzQ.mulLo hx.szL.1 hx.szL.2 hy.szL.1 hy.szL.2) (SzQ.mulHi hx.szL.1 hx.szL.2 hy.szL.1 hy.szL.2) (mulLo_le_hi hx.le hy.le)
theorem IsI.hull {k : Nat} {x y : D} {a b c d : Rat} (hx : IsI k x a b) (hy : IsI k y c d) : IsI k (FR (min a c) (max b d)) (min a c) (max b d) :=
  FR_isI (hx.szL.1.min hy.szL.1) (hx.szL.2.max hy.szL.2) (Rat.le_trans (rmin_le_l a c) (Rat.le_trans hx.le (le_rmax_l b d)))
theorem IsI.inv {l : Nat} {y : D} {c d : Rat} (hy : IsI l y c d) (h : ¬ (c ≤ 0 ∧ 0 ≤ d)) : IsI (1 + l) (FR (((1 : Int) : Rat) / d) (((1 : Int) : Rat) / c)) (((1 : Int) : Rat) / d) (((1 : Int) : Rat) / c) :=
  FR_isI ((sz_one (by omega)).div hy.szL.2) ((sz_one (by omega)).div hy.szL.1) (one_div_pos_le hy.le h).2.2
theorem hull_inside {a b c d a' b' c' d' : Rat} (h1 : a ≤ a') (h3 : b' ≤ b) (h4 : c ≤ c') (h6 : d' ≤ d) : min a c ≤ min a' c' ∧ max b' d' ≤ max b d :=
  ⟨le_rmin (Rat.le_trans (rmin_le_l a c) h1) (Rat.le_trans (rmin_le_r a c) h4), rmax_le (Rat.le_trans h3 (le_rmax_l b d)) (Rat.le_trans h6 (le_rmax_r b d))⟩

/-! ### IntervalInside -/
def parts4 (a b c d : Nat) : D := .agg [u8 a, u8 b, u8 c, u8 d]
theorem u8_min (m n : Nat) : D.lit (.int .u8 (if Int.ofNat n < Int.ofNat m then Int.ofNat n else Int.ofNat m)) = u8 (min m n) := by
  unfold u8
  split
  · rw [show min m n = n by simp only [Int.ofNat_eq_natCast] at *; omega]
  · rw [show min m n = m by simp only [Int.ofNat_eq_natCast] at *; omega]
theorem u8_max (m n : Nat) : D.lit (.int .u8 (if Int.ofNat n > Int.ofNat m then Int.ofNat n else Int.ofNat m)) = u8 (max m n) := by
  unfold u8
  split
  · rw [show max m n = n by simp only [Int.ofNat_eq_natCast] at *; omega]
  · rw [show max m n = m by simp only [Int.ofNat_eq_natCast] at *; omega]
/-- Division, by the two cases. -/
def quoD (a b c d : Rat) : D := .tup [FR (mulLo a b (((1 : Int) : Rat) / d) (((1 : Int) : Rat) / c)) (mulHi a b (((1 : Int) : Rat) / d) (((1 : Int) : Rat) / c)), .lit .nilIface]
theorem root_any (hG : Steady G) {k : Nat} {x : D} {a b : Rat} (hx : IsI k x a b) (hk : k ≤ 100) : ∃ z1 z2 ze, Spec Tryz.prog G 29 [x, nat 8] (.tup [FR z1 z2, .lit ze]) := by
  have kb := KB_eq
  have rk := RK_eq
  by_cases h0 : a < 0
  · exact ⟨_, _, _, IRoot_low (b := 8) hG hx (by omega) (by omega) h0⟩
  · exact ⟨_, _, _, IRoot_spec (b := 8) hG hx (by omega) (by omega) (rat_le_neg h0)⟩
theorem root_in (hG : Steady G) {k l : Nat} {x y : D} {a b a' b' : Rat} (hx : IsI k x a b) (hy : IsI l y a' b') (hk : k ≤ 100 ∧ l ≤ 100) (h0 : 0 ≤ a) (h1 : a ≤ a') (h2 : b' ≤ b) :
    Spec Tryz.prog G 18 [FR (rootLo a' 8) (rootHi b' 8), FR (rootLo a 8) (rootHi b 8)] (bool true) := by
  have kb := KB_eq
  have rk := RK_eq
  have h0' := Rat.le_trans h0 h1
  obtain ⟨t1, t2⟩ := SzQ.root (b := 8) hx.szL.1 hx.szL.2 (Rat.le_trans h0 hx.le) (by omega)
  obtain ⟨u1, u2⟩ := SzQ.root (b := 8) hy.szL.1 hy.szL.2 (Rat.le_trans h0' hy.le) (by omega)
  have n := Inside_spec (G := G) hG (FR_isI u1 u2 (root_order 8 h0' hy.le)) (FR_isI t1 t2 (root_order 8 h0 hx.le)) (by omega) (by omega)
  rw [decide_eq_true ⟨rootLo_mono h0 h1 8, rootHi_mono (Rat.le_trans h0' hy.le) h2 8⟩] at n
  exact n
end Lw

namespace Lw
open Go Go.RowKit Go.Proofs

variable {G : World → Prop}

def parts2 (a b : Nat) : D := .agg [u8 a, u8 b]
theorem mid_in {a b : Rat} (h : a ≤ b) : a ≤ Rat.divInt 1 2 * (a + b) ∧ Rat.divInt 1 2 * (a + b) ≤ b := by
  have h2 : Rat.divInt 1 2 + Rat.divInt 1 2 = 1 := by decide +kernel
  have h0 : 0 ≤ Rat.divInt 1 2 := by decide +kernel
  generalize Rat.divInt 1 2 = t at *
  have e1 : (t + t) * a = a := by rw [h2, Rat.one_mul]
  have e2 : (t + t) * b = b := by rw [h2, Rat.one_mul]
  have e3 := Rat.mul_le_mul_of_nonneg_left h h0
  constructor
  · grind
  · grind
theorem quo_eq (x y : Rat) : x / y = x * (((1 : Int) : Rat) / y) := by
  rw [Rat.div_def, Rat.div_def]
  show x * y⁻¹ = x * ((1 : Rat) * y⁻¹)
  rw [Rat.one_mul]
theorem quo_in {a b c d x y : Rat} (hc : ¬ (c ≤ 0 ∧ 0 ≤ d)) (h1 : a ≤ x) (h2 : x ≤ b) (h3 : c ≤ y) (h4 : y ≤ d) :
    mulLo a b (((1 : Int) : Rat) / d) (((1 : Int) : Rat) / c) ≤ x / y ∧ x / y ≤ mulHi a b (((1 : Int) : Rat) / d) (((1 : Int) : Rat) / c) := by
  obtain ⟨j1, -, j3⟩ := inv_inside hc h3 (Rat.le_refl) h4
  rw [quo_eq x y]
  exact mul_in h1 h2 j1 j3
end Lw

namespace Lw
open Go Go.RowKit Go.Proofs Go.ChangeShapes Go.WideShapes Go.ChangeAt

section
variable {H : Type} {enc : TypeId × Value → H} {W : World} {fuel : Nat} {cs : List Value} {x : DataW H × List MemPlace}

theorem cells_u8 : Tryz.prog.cellsOf 5 = 1 := by kernel_rfl
theorem u8_cell (h : DataW.trod enc Tryz.prog W 0 (fun _ => true) true fuel 5 cs = some x) : ∃ m : Nat, m < 256 ∧ cs = [.int .u8 (Int.ofNat m)] := by
  obtain ⟨n, hc, -, hw⟩ := DataW.trod_int Tryz.underlying5 h
  obtain ⟨m, rfl, hm⟩ := u8_of hw
  exact ⟨m, hm, hc⟩
theorem two_cells {α : Type} {l : List α} (h : l.length = 2) : ∃ a b, l = [a, b] := by
  match l, h with
  | [a, b], _ => exact ⟨a, b, rfl⟩
theorem four_cells {α : Type} {l : List α} (h : l.length = 4) : ∃ a b c d, l = [a, b, c, d] := by
  match l, h with
  | [a, b, c, d], _ => exact ⟨a, b, c, d, rfl⟩
theorem el_read {n m : Nat} {xs : List (DataW H × List MemPlace)} (hf : ∀ (i : Nat), i < n → DataW.trod enc Tryz.prog W 0 (fun _ => true) true m 5 ((cs.drop (i * Tryz.prog.cellsOf 5)).take (Tryz.prog.cellsOf 5)) = xs[i]?) (hn : xs.length = n) (i : Nat) (hi : i < n) :
    ∃ v : Nat, v < 256 ∧ (cs.drop i).take 1 = [.int .u8 (Int.ofNat v)] := by
  have h := hf i hi
  obtain ⟨y, e⟩ := some_of (l := xs) (i := i) (by omega)
  rw [e, cells_u8, Nat.mul_one] at h
  exact u8_cell h
end
end Lw
