/- Decimal numerals in groups of nine digits: plain laws. No condition. -/
import Derived.Lib.ItoaNum
import Derived.Lib.Join
namespace Lw
open Go Go.Lib

/-- The last k decimal digits. -/
def padK : Nat → Nat → List UInt8
  | 0, _ => []
  | k + 1, r => padK k (r / 10) ++ [UInt8.ofNat (48 + r % 10)]
theorem padK_len : ∀ k r, (padK k r).length = k
  | 0, _ => rfl
  | k + 1, r => by unfold padK; rw [List.length_append, padK_len k]; rfl
theorem dec_append : ∀ (k a r : Nat), 0 < a → r < 10 ^ k → decDigits (a * 10 ^ k + r) = decDigits a ++ padK k r
  | 0, a, r, _, hr => by
    have : r = 0 := by simpa using hr
    subst this
    simp [padK]
  | k + 1, a, r, ha, hr => by
    have hp : 1 ≤ 10 ^ k := Nat.one_le_pow _ _ (by decide)
    have e : a * 10 ^ (k + 1) + r = (a * 10 ^ k + r / 10) * 10 + r % 10 := by
      rw [Nat.pow_succ, Nat.add_mul, Nat.mul_assoc, Nat.add_assoc]
      have := Nat.div_add_mod r 10
      omega
    have hge : ¬ a * 10 ^ (k + 1) + r < 10 := by
      have : 1 * 10 ^ k ≤ a * 10 ^ k := Nat.mul_le_mul_right _ ha
      omega
    have hq : (a * 10 ^ (k + 1) + r) / 10 = a * 10 ^ k + r / 10 := by omega
    have hm : (a * 10 ^ (k + 1) + r) % 10 = r % 10 := by omega
    have hr' : r / 10 < 10 ^ k := by rw [Nat.pow_succ] at hr; omega
    rw [decDigits, dif_neg hge, hq, hm, dec_append k a (r / 10) ha hr', List.append_assoc]
    rfl
/-- A numeral with zeros ahead. -/
theorem pad_zero : ∀ (k r : Nat), 1 ≤ k → r < 10 ^ k → List.replicate (k - nDigits r) 48 ++ decDigits r = padK k r
  | 0, _, h, _ => by omega
  | k + 1, r, _, hr => by
    by_cases h : r < 10
    · rw [nDigits_small h, decDigits_one h]
      show _ = padK k (r / 10) ++ [UInt8.ofNat (48 + r % 10)]
      have e1 : r / 10 = 0 := by omega
      have e2 : r % 10 = r := by omega
      rw [e1, e2]
      have z : ∀ k, padK k 0 = List.replicate k 48 := by
        intro k
        induction k with
        | zero => rfl
        | succ k ih => unfold padK; rw [Nat.zero_div, ih, List.replicate_succ']; rfl
      rw [z]; rfl
    · have hk : 1 ≤ k := by
        rcases Nat.eq_zero_or_pos k with e | e
        · subst e; simp at hr; omega
        · exact e
      have hr' : r / 10 < 10 ^ k := by rw [Nat.pow_succ] at hr; omega
      have ih := pad_zero k (r / 10) hk hr'
      rw [nDigits_big h, decDigits, dif_neg h]
      unfold padK
      rw [← ih, show k + 1 - (nDigits (r / 10) + 1) = k - nDigits (r / 10) by omega, List.append_assoc]
theorem nDigits_le {k r : Nat} (hk : 1 ≤ k) (h : r < 10 ^ k) : nDigits r ≤ k := by
  have e := congrArg List.length (pad_zero k r hk h)
  rw [List.length_append, List.length_replicate, decDigits_length, padK_len] at e
  omega
/-- The numeral in groups of nine. -/
theorem dec_group {v : Nat} (h : ¬ v / 1000000000 = 0) : decDigits v = decDigits (v / 1000000000) ++ padK 9 (v % 1000000000) := by
  have e : v / 1000000000 * 10 ^ 9 + v % 1000000000 = v := by have := Nat.div_add_mod v 1000000000; omega
  have := dec_append 9 (v / 1000000000) (v % 1000000000) (by omega) (Nat.mod_lt _ (by decide))
  rwa [e] at this
end Lw

namespace Lw
open Go Go.Lib
theorem padK_front : ∀ (k r : Nat), padK (k + 1) r = UInt8.ofNat (48 + r / 10 ^ k % 10) :: padK k r
  | 0, r => by simp [padK]
  | k + 1, r => by
    have e : r / 10 / 10 ^ k = r / 10 ^ (k + 1) := by rw [Nat.div_div_eq_div_mul, Nat.pow_succ, Nat.mul_comm]
    rw [padK, padK_front k (r / 10), e]
    rfl
theorem pad_dec {r : Nat} : padK (nDigits r) r = decDigits r := by
  have := pad_zero (nDigits r) r (nDigits_pos r) (lt_pow_nDigits r)
  rw [← this]; simp
theorem nDigits_lt {r k : Nat} (h : 0 < r) : k < nDigits r ↔ 0 < r / 10 ^ k := by
  constructor
  · intro hk
    have : 10 ^ k ≤ r := by
      rcases Nat.lt_or_ge r (10 ^ k) with g | g
      · rcases Nat.eq_zero_or_pos k with e | e
        · subst e; simp at g; omega
        · have := nDigits_le e g
          omega
      · exact g
    exact Nat.div_pos this (Nat.pow_pos (by omega))
  · intro hk
    rcases Nat.lt_or_ge k (nDigits r) with g | g
    · exact g
    · have h1 := lt_pow_nDigits r
      have h2 : 10 ^ nDigits r ≤ 10 ^ k := Nat.pow_le_pow_right (by omega) g
      rw [Nat.div_eq_of_lt (by omega)] at hk
      omega
theorem digit_cut {d : Nat} (h : d < 10) : (⟨#[48, 49, 50, 51, 52, 53, 54, 55, 56, 57]⟩ : ByteArray).extract d (d + 1) = ⟨[UInt8.ofNat (48 + d)].toArray⟩ := by
  have : d = 0 ∨ d = 1 ∨ d = 2 ∨ d = 3 ∨ d = 4 ∨ d = 5 ∨ d = 6 ∨ d = 7 ∨ d = 8 ∨ d = 9 := by omega
  rcases this with rfl | rfl | rfl | rfl | rfl | rfl | rfl | rfl | rfl | rfl <;> rfl
end Lw
