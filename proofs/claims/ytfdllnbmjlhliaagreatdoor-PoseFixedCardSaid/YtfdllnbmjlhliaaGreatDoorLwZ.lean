/- Laws of numbers: roots by Newton's steps and bit by bit, division bit by bit, greatest common divisors by halving. No condition. -/
import Derived.Test.YtfdllnbmjlhliaaGreatDoorLwY
namespace Lw

/-! ### Roots -/
theorem exists_root (n : Nat) : ∃ r, r * r ≤ n ∧ n < (r + 1) * (r + 1) := by
  induction n with
  | zero => exact ⟨0, by omega, by omega⟩
  | succ n ih =>
    obtain ⟨r, h1, h2⟩ := ih
    by_cases h : (r + 1) * (r + 1) ≤ n + 1
    · refine ⟨r + 1, h, ?_⟩
      have : (r + 1 + 1) * (r + 1 + 1) = (r + 1) * (r + 1) + 2 * (r + 1) + 1 := by grind
      omega
    · exact ⟨r, by omega, by omega⟩
noncomputable def isq (n : Nat) : Nat := Classical.choose (exists_root n)
theorem isq_le (n : Nat) : isq n * isq n ≤ n := (Classical.choose_spec (exists_root n)).1
theorem isq_lt (n : Nat) : n < (isq n + 1) * (isq n + 1) := (Classical.choose_spec (exists_root n)).2
theorem sq_lt {a b : Nat} (h : a * a < b * b) : a < b := by
  rcases Nat.lt_or_ge a b with h1 | h1
  · exact h1
  · have := Nat.mul_le_mul h1 h1; omega
theorem isq_unique {n r : Nat} (h1 : r * r ≤ n) (h2 : n < (r + 1) * (r + 1)) : isq n = r := by
  have a := isq_le n
  have b := isq_lt n
  have c : r < isq n + 1 := sq_lt (by omega)
  have d : isq n < r + 1 := sq_lt (by omega)
  omega
theorem isq_zero : isq 0 = 0 := isq_unique (by omega) (by omega)
theorem isq_le_self (n : Nat) : isq n ≤ n := by
  have h := isq_le n
  rcases Nat.eq_zero_or_pos (isq n) with e | e
  · omega
  · have := Nat.le_mul_of_pos_left (isq n) e; omega
theorem isq_pos {n : Nat} (h : 0 < n) : 0 < isq n := by
  have := isq_lt n
  rcases Nat.eq_zero_or_pos (isq n) with e | e
  · rw [e] at this; omega
  · exact e
theorem mean {a b : Nat} : 4 * (a * b) ≤ (a + b) * (a + b) := by
  rcases Nat.le_total a b with h | h
  · obtain ⟨d, rfl⟩ := Nat.exists_eq_add_of_le h
    have : (a + (a + d)) * (a + (a + d)) = 4 * (a * (a + d)) + d * d := by grind
    omega
  · obtain ⟨d, rfl⟩ := Nat.exists_eq_add_of_le h
    have : (b + d + b) * (b + d + b) = 4 * ((b + d) * b) + d * d := by grind
    omega
theorem newton_ge {n x : Nat} (hx : 0 < x) : isq n ≤ (x + n / x) / 2 := by
  have h1 := isq_le n
  have h2 : n < x * (n / x + 1) := by rw [Nat.mul_add, Nat.mul_one]; have := Nat.div_add_mod n x; have := Nat.mod_lt n hx; omega
  generalize n / x = q at *
  generalize isq n = r at *
  rcases Nat.lt_or_ge ((x + q) / 2) r with h | h
  · exfalso
    have h3 : x + (q + 1) ≤ 2 * r := by omega
    have h4 := mean (a := x) (b := q + 1)
    have h5 := Nat.mul_le_mul h3 h3
    have h6 : 2 * r * (2 * r) = 4 * (r * r) := by grind
    omega
  · exact h
theorem newton_lt {n x : Nat} (h : isq n < x) : (x + n / x) / 2 < x := by
  have h1 := isq_lt n
  have h2 : (isq n + 1) * (isq n + 1) ≤ x * x := Nat.mul_le_mul h h
  have h3 : n / x < x := Nat.div_lt_of_lt_mul (by omega)
  omega
theorem two_pow_sq (k : Nat) : 2 ^ k * 2 ^ k = 2 ^ (2 * k) := by rw [← Nat.pow_add]; congr 1; omega
theorem start_over {n k : Nat} (h : bl n ≤ 2 * k) : isq n < 2 ^ k := by
  refine sq_lt ?_
  rw [two_pow_sq]
  have h1 := isq_le n
  have h2 := bl_lt n
  have h3 : 2 ^ bl n ≤ 2 ^ (2 * k) := Nat.pow_le_pow_right (by omega) h
  omega

/-! ### Bits of quotients -/
theorem div_two_pow_succ (a i : Nat) : a / 2 ^ i = 2 * (a / 2 ^ (i + 1)) + a / 2 ^ i % 2 := by
  rw [Nat.pow_succ, ← Nat.div_div_eq_div_mul]; omega
theorem bit_step {x b c : Nat} (hb : 0 < b) (hc : c < 2) : (2 * x + c) / b = 2 * (x / b) + (if b ≤ 2 * (x % b) + c then 1 else 0) ∧ (2 * x + c) % b = if b ≤ 2 * (x % b) + c then 2 * (x % b) + c - b else 2 * (x % b) + c := by
  have h1 := Nat.div_add_mod x b
  have h2 := Nat.mod_lt x hb
  have h3 : 2 * x + c = b * (2 * (x / b)) + (2 * (x % b) + c) := by
    have : b * (2 * (x / b)) = 2 * (b * (x / b)) := by grind
    omega
  split
  · rename_i h
    have h4 : 2 * x + c = b * (2 * (x / b) + 1) + (2 * (x % b) + c - b) := by rw [Nat.mul_add, Nat.mul_one]; omega
    constructor
    · have h5 : (2 * (x % b) + c - b) / b = 0 := Nat.div_eq_of_lt (by omega)
      rw [h4, Nat.mul_add_div hb, h5]
    · have h5 : (2 * (x % b) + c - b) % b = 2 * (x % b) + c - b := Nat.mod_eq_of_lt (by omega)
      rw [h4, Nat.mul_add_mod, h5]
  · rename_i h
    constructor
    · have h5 : (2 * (x % b) + c) / b = 0 := Nat.div_eq_of_lt (by omega)
      rw [h3, Nat.mul_add_div hb, h5]
    · have h5 : (2 * (x % b) + c) % b = 2 * (x % b) + c := Nat.mod_eq_of_lt (by omega)
      rw [h3, Nat.mul_add_mod, h5]

/-! ### Greatest common divisors -/
theorem gcd_half {a b : Nat} (h : Nat.gcd (2 * a) b % 2 = 1) : Nat.gcd a b = Nat.gcd (2 * a) b := by
  have hb : b % 2 = 1 := by
    rcases Nat.mod_two_eq_zero_or_one b with e | e
    · have : 2 ∣ Nat.gcd (2 * a) b := Nat.dvd_gcd (Nat.dvd_mul_right _ _) (Nat.dvd_of_mod_eq_zero e)
      omega
    · exact e
  have hc : Nat.Coprime 2 b := by
    unfold Nat.Coprime
    have h1 : Nat.gcd 2 b ∣ 2 := Nat.gcd_dvd_left _ _
    have h2 : Nat.gcd 2 b ∣ b := Nat.gcd_dvd_right _ _
    have h3 : Nat.gcd 2 b ≤ 2 := Nat.le_of_dvd (by omega) h1
    have h4 : Nat.gcd 2 b ≠ 2 := fun e => by rw [e] at h2; omega
    have h5 : Nat.gcd 2 b ≠ 0 := fun e => by rw [e] at h1; omega
    omega
  exact (Nat.Coprime.gcd_mul_left_cancel a hc).symm
theorem gcd_half_r {a b : Nat} (h : Nat.gcd a (2 * b) % 2 = 1) : Nat.gcd a b = Nat.gcd a (2 * b) := by
  rw [Nat.gcd_comm a b, Nat.gcd_comm a (2 * b)]; exact gcd_half (by rw [Nat.gcd_comm]; exact h)
theorem gcd_both (a b : Nat) : Nat.gcd (2 * a) (2 * b) = 2 * Nat.gcd a b := Nat.gcd_mul_left 2 a b
theorem gcd_less {a b : Nat} (h : b ≤ a) : Nat.gcd (a - b) b = Nat.gcd a b := Nat.gcd_sub_self_left h
end Lw
