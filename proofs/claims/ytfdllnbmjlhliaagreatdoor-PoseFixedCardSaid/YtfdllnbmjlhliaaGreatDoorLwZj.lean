/- The contracts of the reference's integers: roots, numbers, bits. No condition. -/
import Derived.Test.YtfdllnbmjlhliaaGreatDoorLwZi
namespace Lw
open Go Go.RowKit Go.Proofs

variable {G : World → Prop}

/-! ### Root, bit by bit -/
def rowR (r : Nat) : D := if r = 0 then .row 0 true [] else rowW (words r)
theorem rowR_pos {r : Nat} (h : 0 < r) : rowR r = rowW (words r) := by unfold rowR; rw [if_neg (by omega)]
theorem rowR_zero : rowR 0 = .row 0 true [] := rfl
def rrtInv (m : Nat) (p : Nat × Nat) : St := lay 44 [(2, .ptr 0 0), (4, rowW (words m)), (5, rowR p.2), (6, int (cnt p.1))] [(0, zeroW)]
theorem cmp_le_true {a b : Nat} (h : a ≤ b) : decide (cmpI a b ≤ 0) = true := by
  unfold cmpI
  split
  · rfl
  · rw [if_neg (by omega)]; rfl
theorem cmp_le_false {a b : Nat} (h : b < a) : decide (cmpI a b ≤ 0) = false := by
  unfold cmpI
  rw [if_neg (by omega), if_pos h]; rfl
theorem bl_len (m : Nat) : bl m ≤ 32 * (words m).length := by
  rcases Nat.eq_zero_or_pos m with h | h
  · subst h; exact Nat.zero_le _
  · have h3 := (len_le_iff m _).1 (Nat.le_refl _)
    rcases Nat.lt_or_ge (32 * (words m).length) (bl m) with q | q
    · have h4 := bl_le (x := m) (by omega)
      rw [BP_two] at h3
      have h5 : 2 ^ (32 * (words m).length) ≤ 2 ^ (bl m - 1) := Nat.pow_le_pow_right (by omega) (by omega)
      omega
    · exact q
/-! ### Of -/
theorem ROf_neg (hG : Steady G) {x : Nat} (h0 : 0 < x) (h : x ≤ 9223372036854775808) : Spec Tryz.prog G 82 [int (-(x : Int))] (W (-(x : Int))) := by
  have hw := rform_any (G := G) hG true (l := [x % 4294967296, x / 4294967296]) (two_dig (by omega)) (by simp)
  rw [two_words] at hw
  have e := W_mk' true x
  have e2 : mkI true x = -(x : Int) := rfl
  rw [e2] at e
  rw [e]
  have c1 : IntKind.wrap .u64 (-(x : Int)) = Int.ofNat (18446744073709551616 - x) := by rw [wrap64i]; simp only [Int.ofNat_eq_natCast]; omega
  have c2 : IntKind.wrap .u64 (0 - Int.ofNat (18446744073709551616 - x)) = Int.ofNat x := by rw [wrap64i]; simp only [Int.ofNat_eq_natCast]; omega
  have lt : decide (-(x : Int) < 0) = true := by simp; omega
  exact Spec.of_run hG Tryz.func82 (ro := []) (m := 30)
    [.eq 5 (eq64 c1), .eq 7 (eqB lt), .eq 9 (eq64 c2), .eq 11 (eqB lt), .eq 13 (eq32 (conv32 x)), .eq 15 (eq64 (shr32 x)), .eq 16 (eq32 (x := IntKind.wrap .u32 (Int.ofNat (x / 4294967296))) (y := Int.ofNat (x / 4294967296)) (by rw [conv32, Nat.mod_eq_of_lt (by omega)])), .call hw] (by kernel_rfl)
theorem ROf_pos (hG : Steady G) {x : Nat} (h : x < 9223372036854775808) : Spec Tryz.prog G 82 [int (x : Int)] (W (x : Int)) := by
  have hw := rform_any (G := G) hG false (l := [x % 4294967296, x / 4294967296]) (two_dig (by omega)) (by simp)
  rw [two_words] at hw
  have e := W_mk' false x
  have e2 : mkI false x = (x : Int) := rfl
  rw [e2] at e
  rw [e]
  have lt : decide ((x : Int) < 0) = false := by simp
  exact Spec.of_run hG Tryz.func82 (ro := []) (m := 30)
    [.eq 5 (eq64 (x := IntKind.wrap .u64 (x : Int)) (y := Int.ofNat x) (wrap64 (by omega))), .eq 7 (eqB lt), .eq 11 (eqB lt), .eq 13 (eq32 (conv32 x)), .eq 15 (eq64 (shr32 x)),
     .eq 16 (eq32 (x := IntKind.wrap .u32 (Int.ofNat (x / 4294967296))) (y := Int.ofNat (x / 4294967296)) (by rw [conv32, Nat.mod_eq_of_lt (by omega)])), .call hw] (by kernel_rfl)
theorem ROf_spec (hG : Steady G) {i : Int} (h : -9223372036854775808 ≤ i) (h' : i < 9223372036854775808) : Spec Tryz.prog G 82 [int i] (W i) := by
  by_cases hi : i < 0
  · obtain ⟨x, rfl⟩ : ∃ x : Nat, i = -(x : Int) := ⟨i.natAbs, by omega⟩
    exact ROf_neg hG (by omega) (by omega)
  · obtain ⟨x, rfl⟩ : ∃ x : Nat, i = (x : Int) := ⟨i.natAbs, by omega⟩
    exact ROf_pos hG (by omega)
end Lw
