/- Values of numbers of towers: bounds, integers near them, and what an enclosure tells. No condition. -/
import Derived.Test.YtmcpfihkambgnaaGreatLwNc
namespace Lw
namespace Fld
open Rng OFd

section bd
variable {K : Type} [OFd K]
theorem nn_half {a : K} (h : nn (a + a)) : nn a := by
  rcases tri a with g | g | g
  · exact .inl g
  · exact .inr g
  · have := pos_add g g
    rw [show -a + -a = -(a + a) from rg [a] (by kernel_rfl)] at this
    exact (nn_not h this).elim
/-- The absolute value of a is at most b. -/
structure Bd (a b : K) : Prop where
  hi : nn (b - a)
  lo : nn (b + a)
theorem Bd.nn {a b : K} (h : Bd a b) : nn b := nn_half (nn_eq (nn_add h.hi h.lo) (rg [a, b] (by kernel_rfl)))
theorem Bd.add {a b c d : K} (h : Bd a b) (h' : Bd c d) : Bd (a + c) (b + d) :=
  ⟨nn_eq (nn_add h.hi h'.hi) (rg [a, b, c, d] (by kernel_rfl)), nn_eq (nn_add h.lo h'.lo) (rg [a, b, c, d] (by kernel_rfl))⟩
theorem Bd.mul {a b c d : K} (h : Bd a b) (h' : Bd c d) : Bd (a * c) (b * d) :=
  ⟨nn_half (nn_eq (nn_add (nn_mul h.hi h'.lo) (nn_mul h.lo h'.hi)) (rg [a, b, c, d] (by kernel_rfl))),
   nn_half (nn_eq (nn_add (nn_mul h.hi h'.hi) (nn_mul h.lo h'.lo)) (rg [a, b, c, d] (by kernel_rfl)))⟩
theorem Bd.root {r D B : K} (hr : OFd.nn r) (hD : r * r = D) (h : Bd D B) : Bd r (B + 1) := by
  have hB := h.nn
  refine ⟨?_, nn_add (nn_add hB (.inl pos_one)) hr⟩
  refine not_neg fun g => ?_
  have e1 : pos (r - (B + 1)) := of_eq g (rg [r, B] (by kernel_rfl))
  have p1 : pos (r + (B + 1)) := nn_pos hr (nn_pos hB pos_one)
  have p3 := pos_nn (pos_mul e1 p1) h.hi
  have p4 : OFd.nn (B * B + B + 1) := nn_add (nn_add (nn_mul hB hB) hB) (.inl pos_one)
  exact nn_not p4 (of_eq p3 (rg1 [r, B, D] (-1) hD (by kernel_rfl)))
end bd

section rat
variable {K : Type} [OFd K] (ι : Hom Rat K)
theorem phi_nn {a : Rat} (h : 0 ≤ a) : nn (ι.φ a) := by
  by_cases e : a = 0
  · rw [e, ι.zero]; exact nn_zero
  · exact .inl (ι.pos a (show (0 : Rat) < a by grind))
theorem phi_pos {a : Rat} (h : 0 < a) : pos (ι.φ a) := ι.pos a h
theorem phi_back {a : Rat} (h : nn (ι.φ a)) : 0 ≤ a := by
  apply Rat.not_lt.1
  intro g
  refine nn_not h ?_
  rw [← ι.neg]
  exact ι.pos _ (show (0 : Rat) < -a by grind)
theorem phi_bd {a m : Rat} (h : -m ≤ a ∧ a ≤ m) : Bd (ι.φ a) (ι.φ m) :=
  ⟨by rw [← ι.sub]; exact phi_nn ι (by grind), by rw [← ι.add]; exact phi_nn ι (by grind)⟩
end rat

/-- How much greater than its coefficients a number of level k may be, where the coefficients under the roots are at most m. -/
def pB (m : Rat) : Nat → Rat
  | 0 => 1
  | k + 1 => pB m k * (m * pB m k + 1 + 1)

section val3
variable {K : Type} [OFd K] (ι : Hom Rat K) (s : Nat → K)
theorem V_bd {t : Tow} {n : Nat} {m : Rat} (hM : Model ι s t n) (hm : ∀ j, j < n → ∀ i, -m ≤ (t.getD j []).getD i 0 ∧ (t.getD j []).getD i 0 ≤ m) :
    ∀ k, k ≤ n → ∀ (M : Rat) (f : Nat → Rat), (∀ i, -M ≤ f i ∧ f i ≤ M) → Bd (V ι s k f) (ι.φ (M * pB m k))
  | 0, _, M, f, h => by
    simp only [V, pB]
    rw [Rat.mul_one]
    exact phi_bd ι (h 0)
  | k + 1, hk, M, f, h => by
    have b1 := V_bd hM hm k (by omega) M f h
    have b2 := V_bd hM hm k (by omega) M (fun i => f (i + 2 ^ k)) fun i => h _
    have b3 := V_bd hM hm k (by omega) m (fun i => (t.getD k []).getD i 0) (hm k (by omega))
    have b4 := Bd.root (hM.nn k (by omega)) (hM.sq k (by omega)) b3
    have b5 := b1.add (b2.mul b4)
    have e : M * pB m (k + 1) = M * pB m k + M * pB m k * (m * pB m k + 1) := by
      show M * (pB m k * (m * pB m k + 1 + 1)) = _
      grind
    rw [e, ι.add, ι.mul (M * pB m k), ι.add (m * pB m k), ι.one]
    exact b5
/-- The sign of a - m. -/
def atL (t : Tow) (k : Nat) (a : List Rat) (m : Int) : Int := signL t k (plusL a (minusL [(m : Rat)]))
theorem lv_single (k : Nat) (q : Rat) : lv ι s k [q] = ι.φ q := by
  rw [lv_up ι s (j := 0) (by simp) (by omega), lv_one]
theorem Sh.single (k : Nat) (q : Rat) : Sh k [q] := .inr ⟨0, by omega, rfl⟩
theorem atL_ok {t : Tow} {k : Nat} {a : List Rat} (hT : ShT k t) (hM : Model ι s t k) (ha : Sh k a) (m : Int) : atL t k a m = sg (lv ι s k a - ι.φ m) := by
  unfold atL
  rw [signL_ok ι s k _ hT hM (ha.plus (Sh.single k _).minus), lv_plus, lv_minus, lv_single, sub_def']
theorem at_far {t : Tow} {k : Nat} {a : List Rat} {m M : Rat} (hT : ShT k t) (hM : Model ι s t k) (ha : Sh k a) (hm : ∀ j, j < k → ∀ i, -m ≤ (t.getD j []).getD i 0 ∧ (t.getD j []).getD i 0 ≤ m)
    (hA : ∀ i, -M ≤ a.getD i 0 ∧ a.getD i 0 ≤ M) {N : Int} (hN : M * pB m k < (N : Rat)) : atL t k a N < 0 ∧ 0 ≤ atL t k a (-N) := by
  have b := V_bd ι s hM hm k (Nat.le_refl k) M (fun i => a.getD i 0) hA
  have p : pos (ι.φ ((N : Rat) - M * pB m k)) := ι.pos _ (show (0 : Rat) < _ by grind)
  rw [ι.sub] at p
  rw [atL_ok ι s hT hM ha, atL_ok ι s hT hM ha, sg_lt, sg_nn]
  have e : ι.φ ((-N : Int) : Rat) = -ι.φ N := by rw [Rat.intCast_neg, ι.neg]
  rw [e]
  have b1 := b.hi
  have b2 := b.lo
  change nn (ι.φ (M * pB m k) - lv ι s k a) at b1
  change nn (ι.φ (M * pB m k) + lv ι s k a) at b2
  generalize lv ι s k a = v at *
  generalize ι.φ (M * pB m k) = B at *
  generalize ι.φ ((N : Int) : Rat) = n at *
  exact ⟨of_eq (pos_nn p b1) (rg [v, B, n] (by kernel_rfl)), .inl (of_eq (pos_nn p b2) (rg [v, B, n] (by kernel_rfl)))⟩
/-- What the integers below x = c a and below -x tell. -/
theorem encl {t : Tow} {k : Nat} {x a : List Rat} (hT : ShT k t) (hM : Model ι s t k) (hx : Sh k x) (ha : Sh k a) {c : Rat} (hc : 0 < c) (hv : lv ι s k x = lv ι s k a * ι.φ c)
    {m1 m2 : Int} (h1 : 0 ≤ atL t k x m1) (h2 : atL t k x (m1 + 1) < 0) (h3 : 0 ≤ atL t k (minusL x) m2) (h4 : atL t k (minusL x) (m2 + 1) < 0) :
    m1 ≤ -m2 ∧ -m2 ≤ m1 + 1 ∧ (0 < m1 → signL t k a = 1) ∧ (0 < m2 → signL t k a = -1) ∧ (m1 = 0 → m2 = 0 → signL t k a = 0) := by
  rw [atL_ok ι s hT hM hx] at h1 h2
  rw [atL_ok ι s hT hM hx.minus] at h3 h4
  rw [lv_minus] at h3 h4
  rw [signL_ok ι s k _ hT hM ha]
  have e : sg (lv ι s k a) = sg (lv ι s k x) := by
    rw [hv, sg_mul, sg_pos (phi_pos ι hc), Int.mul_one]
  rw [e]
  clear e hv
  rw [sg_nn] at h1 h3
  rw [sg_lt] at h2 h4
  generalize lv ι s k x = v at *
  refine ⟨?_, ?_, fun h => ?_, fun h => ?_, fun g1 g2 => ?_⟩
  · have : nn (ι.φ ((-m2 - m1 : Int) : Rat)) := by
      have e : ((-m2 - m1 : Int) : Rat) = -(m2 : Rat) - (m1 : Rat) := by push_cast; rfl
      rw [e, ι.sub, ι.neg]
      generalize ι.φ (m1 : Rat) = p at *
      generalize ι.φ (m2 : Rat) = q at *
      exact nn_eq (nn_add h1 h3) (rg [v, p, q] (by kernel_rfl))
    have := phi_back ι this
    have : (0 : Rat) ≤ ((-m2 - m1 : Int) : Rat) := this
    have := Rat.intCast_nonneg.1 this
    omega
  · have e1 : ι.φ (((m1 + 1 : Int)) : Rat) = ι.φ (m1 : Rat) + 1 := by rw [Rat.intCast_add, ι.add, Rat.intCast_one, ι.one]
    have e2 : ι.φ (((m2 + 1 : Int)) : Rat) = ι.φ (m2 : Rat) + 1 := by rw [Rat.intCast_add, ι.add, Rat.intCast_one, ι.one]
    rw [e1] at h2
    rw [e2] at h4
    have : pos (ι.φ ((m1 + m2 + 2 : Int) : Rat)) := by
      have e : ((m1 + m2 + 2 : Int) : Rat) = (m1 : Rat) + (m2 : Rat) + 1 + 1 := by push_cast; grind
      rw [e, ι.add, ι.add, ι.add, ι.one]
      generalize ι.φ (m1 : Rat) = p at *
      generalize ι.φ (m2 : Rat) = q at *
      exact of_eq (pos_add h2 h4) (rg [v, p, q] (by kernel_rfl))
    have h5 := phi_back ι (.inl this)
    have h6 : ((m1 + m2 + 2 : Int) : Rat) ≠ 0 := fun h => by rw [h, ι.zero] at this; exact pos_zero this
    have h7 := Rat.intCast_nonneg.1 h5
    have h8 : (m1 + m2 + 2 : Int) ≠ 0 := fun h => h6 (by rw [h]; rfl)
    omega
  · refine sg_pos ?_
    have hp := phi_pos ι (a := (m1 : Rat)) (Rat.intCast_pos.2 h)
    generalize ι.φ (m1 : Rat) = p at *
    exact of_eq (nn_pos h1 hp) (rg [v, p] (by kernel_rfl))
  · refine sg_neg ?_
    have hp := phi_pos ι (a := (m2 : Rat)) (Rat.intCast_pos.2 h)
    generalize ι.φ (m2 : Rat) = p at *
    exact of_eq (nn_pos h3 hp) (rg [v, p] (by kernel_rfl))
  · rw [g1] at h1
    rw [g2] at h3
    have e : ι.φ ((0 : Int) : Rat) = 0 := ι.zero
    rw [e] at h1 h3
    exact sg_eq_zero.2 (nn_anti (nn_eq h1 (rg [v] (by kernel_rfl))) (nn_eq h3 (rg [v] (by kernel_rfl))))
end val3
end Fld
end Lw
