/- Laws of numbers for intervals: products between corners, square roots on grids. No condition. -/
import Derived.Test.YticigjdakdbbjaaGreatDoorLwTe
namespace Lw

theorem rmin_le_l (a b : Rat) : min a b ≤ a := by rw [Rat.min_def]; split; (· exact Rat.le_refl); rename_i h; exact Rat.le_of_lt (Rat.not_le.1 h)
theorem rmin_le_r (a b : Rat) : min a b ≤ b := by rw [Rat.min_def]; split; (· assumption); exact Rat.le_refl
theorem le_rmax_l (a b : Rat) : a ≤ max a b := by rw [Rat.max_def]; split; (· assumption); exact Rat.le_refl
theorem le_rmax_r (a b : Rat) : b ≤ max a b := by rw [Rat.max_def]; split; (· exact Rat.le_refl); rename_i h; exact Rat.le_of_lt (Rat.not_le.1 h)
theorem le_rmin {a b c : Rat} (h : c ≤ a) (h2 : c ≤ b) : c ≤ min a b := by rw [Rat.min_def]; split; (· exact h); exact h2
theorem rmax_le {a b c : Rat} (h : a ≤ c) (h2 : b ≤ c) : max a b ≤ c := by rw [Rat.max_def]; split; (· exact h2); exact h
theorem mulLo_le (a b c d : Rat) : mulLo a b c d ≤ a * c ∧ mulLo a b c d ≤ a * d ∧ mulLo a b c d ≤ b * c ∧ mulLo a b c d ≤ b * d := by
  unfold mulLo
  have h1 := rmin_le_l (min (min (a * c) (a * d)) (b * c)) (b * d)
  have h2 := rmin_le_l (min (a * c) (a * d)) (b * c)
  exact ⟨Rat.le_trans h1 (Rat.le_trans h2 (rmin_le_l _ _)), Rat.le_trans h1 (Rat.le_trans h2 (rmin_le_r _ _)), Rat.le_trans h1 (rmin_le_r _ _), rmin_le_r _ _⟩
theorem le_mulHi (a b c d : Rat) : a * c ≤ mulHi a b c d ∧ a * d ≤ mulHi a b c d ∧ b * c ≤ mulHi a b c d ∧ b * d ≤ mulHi a b c d := by
  unfold mulHi
  have h1 := le_rmax_l (max (max (a * c) (a * d)) (b * c)) (b * d)
  have h2 := le_rmax_l (max (a * c) (a * d)) (b * c)
  exact ⟨Rat.le_trans (le_rmax_l _ _) (Rat.le_trans h2 h1), Rat.le_trans (le_rmax_r _ _) (Rat.le_trans h2 h1), Rat.le_trans (le_rmax_r _ _) h1, le_rmax_r _ _⟩
theorem mul_between {a x b y : Rat} (h1 : a ≤ x) (h2 : x ≤ b) : (a * y ≤ x * y ∧ x * y ≤ b * y) ∨ (b * y ≤ x * y ∧ x * y ≤ a * y) := by
  rcases Rat.le_total (a := 0) (b := y) with h | h
  · exact .inl ⟨Rat.mul_le_mul_of_nonneg_right h1 h, Rat.mul_le_mul_of_nonneg_right h2 h⟩
  · have hn : 0 ≤ -y := by grind
    have k1 := Rat.mul_le_mul_of_nonneg_right h1 hn
    have k2 := Rat.mul_le_mul_of_nonneg_right h2 hn
    rw [Rat.mul_neg, Rat.mul_neg, Rat.neg_le_neg_iff] at k1 k2
    exact .inr ⟨k2, k1⟩
theorem mul_in {a b c d x y : Rat} (h1 : a ≤ x) (h2 : x ≤ b) (h3 : c ≤ y) (h4 : y ≤ d) : mulLo a b c d ≤ x * y ∧ x * y ≤ mulHi a b c d := by
  obtain ⟨l1, l2, l3, l4⟩ := mulLo_le a b c d
  obtain ⟨u1, u2, u3, u4⟩ := le_mulHi a b c d
  have e := mul_between (y := y) h1 h2
  have fa := mul_between (y := a) h3 h4
  have fb := mul_between (y := b) h3 h4
  rw [Rat.mul_comm c a, Rat.mul_comm y a, Rat.mul_comm d a] at fa
  rw [Rat.mul_comm c b, Rat.mul_comm y b, Rat.mul_comm d b] at fb
  have la : mulLo a b c d ≤ a * y ∧ a * y ≤ mulHi a b c d := by
    rcases fa with ⟨p, q⟩ | ⟨p, q⟩
    · exact ⟨Rat.le_trans l1 p, Rat.le_trans q u2⟩
    · exact ⟨Rat.le_trans l2 p, Rat.le_trans q u1⟩
  have lb : mulLo a b c d ≤ b * y ∧ b * y ≤ mulHi a b c d := by
    rcases fb with ⟨p, q⟩ | ⟨p, q⟩
    · exact ⟨Rat.le_trans l3 p, Rat.le_trans q u4⟩
    · exact ⟨Rat.le_trans l4 p, Rat.le_trans q u3⟩
  rcases e with ⟨p, q⟩ | ⟨p, q⟩
  · exact ⟨Rat.le_trans la.1 p, Rat.le_trans q lb.2⟩
  · exact ⟨Rat.le_trans lb.1 p, Rat.le_trans q la.2⟩
theorem rmin_mem (a b : Rat) : min a b = a ∨ min a b = b := by rw [Rat.min_def]; split; (· exact .inl rfl); exact .inr rfl
theorem rmax_mem (a b : Rat) : max a b = a ∨ max a b = b := by rw [Rat.max_def]; split; (· exact .inr rfl); exact .inl rfl
theorem mulLo_mem (a b c d : Rat) : mulLo a b c d = a * c ∨ mulLo a b c d = a * d ∨ mulLo a b c d = b * c ∨ mulLo a b c d = b * d := by
  unfold mulLo
  rcases rmin_mem (min (min (a * c) (a * d)) (b * c)) (b * d) with e | e
  · rw [e]
    rcases rmin_mem (min (a * c) (a * d)) (b * c) with e | e
    · rw [e]
      rcases rmin_mem (a * c) (a * d) with e | e
      · exact .inl e
      · exact .inr (.inl e)
    · exact .inr (.inr (.inl e))
  · exact .inr (.inr (.inr e))
theorem mulHi_mem (a b c d : Rat) : mulHi a b c d = a * c ∨ mulHi a b c d = a * d ∨ mulHi a b c d = b * c ∨ mulHi a b c d = b * d := by
  unfold mulHi
  rcases rmax_mem (max (max (a * c) (a * d)) (b * c)) (b * d) with e | e
  · rw [e]
    rcases rmax_mem (max (a * c) (a * d)) (b * c) with e | e
    · rw [e]
      rcases rmax_mem (a * c) (a * d) with e | e
      · exact .inl e
      · exact .inr (.inl e)
    · exact .inr (.inr (.inl e))
  · exact .inr (.inr (.inr e))

/-! ### Square roots -/
theorem rat_lt_le {a b c : Rat} (h : a < b) (h2 : b ≤ c) : a < c := by grind
theorem sq_mono {a b : Rat} (h0 : 0 ≤ a) (h : a ≤ b) : a * a ≤ b * b := by
  have h1 := Rat.mul_le_mul_of_nonneg_left h h0
  have h2 := Rat.mul_le_mul_of_nonneg_right h (Rat.le_trans h0 h)
  exact Rat.le_trans h1 h2
theorem sq_cancel {a b : Rat} (hb : 0 ≤ b) (h : a * a ≤ b * b) : a ≤ b := by
  rcases Rat.le_total (a := a) (b := b) with q | q
  · exact q
  · by_cases e : b < a
    · exfalso
      have h1 : b * b ≤ a * b := Rat.mul_le_mul_of_nonneg_right q hb
      have h2 : a * b < a * a := Rat.mul_lt_mul_of_pos_left e (by grind)
      grind
    · exact Rat.not_lt.1 e
/-- What the floor's root says. -/
theorem isq_floor {T : Rat} (hT : 0 ≤ T) : (((isq T.floor.natAbs : Nat) : Int) : Rat) * (((isq T.floor.natAbs : Nat) : Int) : Rat) ≤ T ∧ T < ((((isq T.floor.natAbs : Nat) : Int) : Rat) + 1) * ((((isq T.floor.natAbs : Nat) : Int) : Rat) + 1) := by
  have hf := floor_nonneg hT
  obtain ⟨f, hff⟩ : ∃ f : Nat, T.floor = (f : Int) := ⟨T.floor.natAbs, by omega⟩
  have i1 := isq_le f
  have i2 := isq_lt f
  have h1 := Rat.floor_le T
  have h2 := Rat.lt_floor_add_one T
  rw [hff] at h1 h2 ⊢
  rw [Int.natAbs_natCast]
  constructor
  · rw [← Rat.intCast_mul]
    refine Rat.le_trans (Rat.intCast_le_intCast.2 ?_) h1
    rw [← Int.natCast_mul]; omega
  · have e1 : ((((isq f : Nat) : Int) : Rat) + 1) = (((isq f : Nat) : Int) + 1 : Int) := by rw [Rat.intCast_add]; rfl
    rw [e1, ← Rat.intCast_mul]
    have h3 : ((f : Int) + 1 : Int) ≤ (((isq f : Nat) : Int) + 1) * (((isq f : Nat) : Int) + 1) := by
      have : ((isq f + 1) * (isq f + 1) : Nat) = (isq f + 1) * (isq f + 1) := rfl
      have h4 : (f : Int) < (((isq f + 1) * (isq f + 1) : Nat) : Int) := by omega
      rw [Int.natCast_mul, Int.natCast_add] at h4
      exact h4
    have h5 := Rat.intCast_le_intCast.2 h3
    exact rat_lt_le h2 h5
theorem isqUp_says {t : Int} (ht : 0 ≤ t) : 0 ≤ isqUp t ∧ t ≤ isqUp t * isqUp t ∧ (isqUp t = 0 ∨ (isqUp t - 1) * (isqUp t - 1) < t) := by
  obtain ⟨n, rfl⟩ : ∃ n : Nat, t = (n : Int) := ⟨t.natAbs, by omega⟩
  have i1 := isq_le n
  have i2 := isq_lt n
  unfold isqUp
  rw [Int.natAbs_natCast, ← Int.natCast_mul]
  by_cases h : ((isq n * isq n : Nat) : Int) < (n : Int)
  · rw [if_pos h]
    refine ⟨by omega, ?_, .inr ?_⟩
    · have h4 : (n : Int) < (((isq n + 1) * (isq n + 1) : Nat) : Int) := by omega
      rw [Int.natCast_mul, Int.natCast_add] at h4
      exact Int.le_of_lt h4
    · rw [Int.add_sub_cancel, ← Int.natCast_mul]; exact h
  · rw [if_neg h]
    have e : isq n * isq n = n := by omega
    refine ⟨by omega, by rw [← Int.natCast_mul]; omega, ?_⟩
    rcases Nat.eq_zero_or_pos (isq n) with hz | hp
    · left; rw [hz]; rfl
    · right
      have h5 : (((isq n : Nat) : Int) - 1) = ((isq n - 1 : Nat) : Int) := by omega
      rw [h5, ← Int.natCast_mul]
      have h6 : (isq n - 1) * (isq n - 1) < isq n * isq n := Nat.mul_lt_mul_of_lt_of_le (by omega) (by omega) hp
      omega
theorem ceil_facts {T : Rat} (hT : 0 ≤ T) : 0 ≤ -(-T).floor ∧ T ≤ ((-(-T).floor : Int) : Rat) ∧ ∀ n : Int, n < -(-T).floor → (n : Rat) < T := by
  have hf := floor_nonneg hT
  rcases ceil_cases T with ⟨e, h⟩ | ⟨e, h⟩
  · rw [e]
    refine ⟨hf, by rw [h]; exact Rat.le_refl, fun n hn => ?_⟩
    have := Rat.intCast_lt_intCast.2 hn
    rw [h] at this; exact this
  · rw [e]
    refine ⟨by omega, Rat.le_of_lt (Rat.lt_floor_add_one T), fun n hn => ?_⟩
    have h1 : n ≤ T.floor := by omega
    have h2 := Rat.intCast_le_intCast.2 h1
    grind
theorem twoQ_ne (n : Nat) : twoQ n ≠ 0 := Rat.ne_of_gt (twoQ_pos n)
/-- The lower root: below, and the nearest one on the grid. -/
theorem rootLo_says {L : Rat} (h0 : 0 ≤ L) (n : Nat) : 0 ≤ rootLo L n ∧ rootLo L n * rootLo L n ≤ L ∧ L < (rootLo L n + 1 / twoQ n) * (rootLo L n + 1 / twoQ n) := by
  have hs := twoQ_pos n
  have hne := twoQ_ne n
  obtain ⟨h1, h2⟩ := isq_floor (T := L * sqQ n) (Rat.mul_nonneg h0 (Rat.le_of_lt (sqQ_pos n)))
  unfold rootLo
  generalize hl : (((isq (L * sqQ n).floor.natAbs : Nat) : Int) : Rat) = l at *
  have hl0 : 0 ≤ l := by rw [← hl]; exact Rat.intCast_nonneg.2 (by omega)
  have e1 : l / twoQ n * twoQ n = l := Rat.div_mul_cancel hne
  have e2 : 1 / twoQ n * twoQ n = 1 := Rat.div_mul_cancel hne
  generalize l / twoQ n = q at *
  generalize 1 / twoQ n = u at *
  unfold sqQ at h1 h2
  generalize twoQ n = s at *
  have hss : 0 < s * s := Rat.mul_pos hs hs
  refine ⟨?_, ?_, ?_⟩
  · refine Rat.le_of_mul_le_mul_right (c := s) ?_ hs
    rw [e1, Rat.zero_mul]; exact hl0
  · refine Rat.le_of_mul_le_mul_right (c := s * s) ?_ hss
    have : q * q * (s * s) = l * l := by rw [← e1]; grind
    rw [this]; exact h1
  · refine Rat.lt_of_mul_lt_mul_right (c := s * s) ?_ (Rat.le_of_lt hss)
    have : (q + u) * (q + u) * (s * s) = (l + 1) * (l + 1) := by rw [← e1, ← e2]; grind
    rw [this]; exact h2
theorem rootHi_says {L : Rat} (h0 : 0 ≤ L) (n : Nat) : 0 ≤ rootHi L n ∧ L ≤ rootHi L n * rootHi L n ∧ (rootHi L n = 0 ∨ (rootHi L n - 1 / twoQ n) * (rootHi L n - 1 / twoQ n) < L) := by
  have hs := twoQ_pos n
  have hne := twoQ_ne n
  obtain ⟨c1, c2, c3⟩ := ceil_facts (T := L * sqQ n) (Rat.mul_nonneg h0 (Rat.le_of_lt (sqQ_pos n)))
  obtain ⟨i1, i2, i3⟩ := isqUp_says c1
  unfold rootHi
  generalize hu : isqUp (-(-(L * sqQ n)).floor) = h at *
  generalize -(-(L * sqQ n)).floor = t at *
  have hh0 : (0 : Rat) ≤ (h : Rat) := Rat.intCast_nonneg.2 i1
  have hh : L * sqQ n ≤ (h : Rat) * (h : Rat) := by rw [← Rat.intCast_mul]; exact Rat.le_trans c2 (Rat.intCast_le_intCast.2 i2)
  have e1 : (h : Rat) / twoQ n * twoQ n = (h : Rat) := Rat.div_mul_cancel hne
  have e2 : 1 / twoQ n * twoQ n = 1 := Rat.div_mul_cancel hne
  have h3 : h = 0 ∨ ((h : Rat) - 1) * ((h : Rat) - 1) < L * sqQ n := by
    rcases i3 with i3 | i3
    · exact .inl i3
    · right
      have := c3 _ i3
      rw [Rat.intCast_mul, Rat.intCast_sub] at this
      exact this
  have hz : h = 0 → (h : Rat) / twoQ n = 0 := fun e => by rw [e]; show (0 : Rat) / twoQ n = 0; rw [Rat.div_def, Rat.zero_mul]
  generalize (h : Rat) / twoQ n = q at *
  generalize 1 / twoQ n = u at *
  unfold sqQ at hh h3
  generalize twoQ n = s at *
  have hss : 0 < s * s := Rat.mul_pos hs hs
  refine ⟨?_, ?_, ?_⟩
  · refine Rat.le_of_mul_le_mul_right (c := s) ?_ hs
    rw [e1, Rat.zero_mul]; exact hh0
  · refine Rat.le_of_mul_le_mul_right (c := s * s) ?_ hss
    have : q * q * (s * s) = (h : Rat) * (h : Rat) := by rw [← e1]; grind
    rw [this]; exact hh
  · rcases h3 with h3 | h3
    · exact .inl (hz h3)
    · right
      refine Rat.lt_of_mul_lt_mul_right (c := s * s) ?_ (Rat.le_of_lt hss)
      have : (q - u) * (q - u) * (s * s) = ((h : Rat) - 1) * ((h : Rat) - 1) := by rw [← e1, ← e2]; grind
      rw [this]; exact h3
end Lw

namespace Lw
open Go Go.RowKit Go.Proofs

variable {G : World → Prop}

def u8 (n : Nat) : D := .lit (.int .u8 (Int.ofNat n))
theorem absQ_nonneg (a : Rat) : 0 ≤ absQ a := by unfold absQ; split <;> grind
theorem SzQ.abs {k : Nat} {a : Rat} (h : SzQ k a) : SzQ k (absQ a) := by unfold absQ; split; (· exact h.neg); exact h
theorem root_le {L H X : Rat} {n : Nat} (h0 : 0 ≤ L) (hLH : L ≤ H) (hX : 0 ≤ X) (h1 : L ≤ X * X) (h2 : X * X ≤ H) : rootLo L n ≤ X ∧ X ≤ rootHi H n := by
  obtain ⟨a1, a2, -⟩ := rootLo_says h0 n
  obtain ⟨b1, b2, -⟩ := rootHi_says (Rat.le_trans h0 hLH) n
  exact ⟨sq_cancel hX (Rat.le_trans a2 h1), sq_cancel b1 (Rat.le_trans h2 b2)⟩
theorem root_order {L H : Rat} (n : Nat) (h0 : 0 ≤ L) (hLH : L ≤ H) : rootLo L n ≤ rootHi H n := by
  obtain ⟨a1, a2, -⟩ := rootLo_says h0 n
  obtain ⟨b1, b2, -⟩ := rootHi_says (Rat.le_trans h0 hLH) n
  exact sq_cancel b1 (Rat.le_trans a2 (Rat.le_trans hLH b2))
theorem rootLo_zero (n : Nat) : rootLo 0 n = 0 := by
  unfold rootLo
  rw [Rat.zero_mul, show (0 : Rat).floor.natAbs = 0 from rfl, isq_zero]
  show (0 : Rat) / twoQ n = 0
  rw [Rat.div_def, Rat.zero_mul]
theorem rootHi_zero (n : Nat) : rootHi 0 n = 0 := by
  unfold rootHi isqUp
  rw [Rat.zero_mul, show (-(-(0 : Rat)).floor) = 0 from rfl, show (0 : Int).natAbs = 0 from rfl, isq_zero, if_neg (by omega)]
  show (0 : Rat) / twoQ n = 0
  rw [Rat.div_def, Rat.zero_mul]
theorem step_of (n : Nat) : Rat.divInt 1 ((2 ^ n : Nat) : Int) = 1 / twoQ n := by rw [Rat.divInt_eq_div]; rfl
theorem shl_int {n : Nat} (h : n < 40) : IntKind.wrap .i64 (1 * 2 ^ min (Int.ofNat n).toNat (IntKind.bits .i64)) = ((2 ^ n : Nat) : Int) := by
  have e : min (Int.ofNat n).toNat (IntKind.bits .i64) = n := by
    show min n 64 = n
    omega
  have h2 : 2 ^ n < 2 ^ 40 := Nat.pow_lt_pow_right (by omega) h
  have h40 : (2:Nat) ^ 40 = 1099511627776 := by decide
  have e2 : ((2:Int) ^ n) = ((2 ^ n : Nat) : Int) := by rw [Int.natCast_pow]; rfl
  rw [e, Int.one_mul, e2]
  generalize 2 ^ n = w at *
  exact wrapS (by omega) (by omega)
theorem sgn0 {a : Rat} (h : a = 0) : (sgn a == 0) = true := by rw [beq_iff_eq]; exact sgn_zero.2 h
theorem sgn_ne0 {a : Rat} (h : ¬ a = 0) : (sgn a == 0) = false := by rw [beq_eq_false_iff_ne]; exact fun hh => h (sgn_zero.1 hh)
theorem RRaw.lo_of {r : RRaw} (h : r.valid = true) : r.L = r.lo.q ∧ r.H = r.hi.q := by unfold RRaw.L RRaw.H; rw [if_pos h, if_pos h]; exact ⟨rfl, rfl⟩
theorem RRaw.none_of {r : RRaw} (h : r.valid = false) : r.L = 0 ∧ r.H = 0 := by unfold RRaw.L RRaw.H; rw [if_neg (by rw [h]; simp), if_neg (by rw [h]; simp)]; exact ⟨rfl, rfl⟩
theorem cmpQ_le_false {a b : Rat} (h : b < a) : decide (cmpQ a b ≤ 0) = false := decide_eq_false fun hh => by have := cmpQ_le.1 hh; rw [← Rat.not_lt] at this; exact this h
end Lw
