/- The contracts of the intervals: grids and roots, in the program and in the reference. No condition. -/
import Derived.Test.YtfdllnbmjlhliaaGreatDoorLwRf
namespace Lw
open Go Go.RowKit Go.Proofs

variable {G : World → Prop}

/-! ### Floors -/
theorem floor_divInt {n d : Int} (hd : 0 < d) : (Rat.divInt n d).floor = n / d := by
  have key : ∀ x : Int, x ≤ (Rat.divInt n d).floor ↔ x ≤ n / d := by
    intro x
    have hd' : (0 : Rat) < (d : Rat) := Rat.intCast_pos.2 hd
    rw [Rat.le_floor_iff, ← Rat.not_lt, Rat.divInt_eq_div, Rat.div_lt_iff hd', ← Rat.intCast_mul, Rat.intCast_lt_intCast, Int.not_lt, Int.le_ediv_iff_mul_le hd]
  exact Int.le_antisymm ((key _).1 (Int.le_refl _)) ((key _).2 (Int.le_refl _))
theorem mul_int (a : Rat) (n : Int) : a * (n : Rat) = Rat.divInt (a.num * n) a.den := by
  conv => lhs; rw [← Rat.num_divInt_den a, ← ofI n]
  rw [Rat.divInt_mul_divInt, Int.mul_one]
theorem floor_mul (a : Rat) (n : Int) : (a * (n : Rat)).floor = a.num * n / (a.den : Int) := by
  rw [mul_int, floor_divInt (by have := a.den_pos; omega)]

/-! ### The reference's grid -/
def cW (n : Int) : List D := [bool (decide (n < 0)), rowW (words n.natAbs)]
def cF (q : Rat) : List D := [bool (rawOf q).s, rowW (rawOf q).n, rowW (rawOf q).d]
def zeroF : List D := [bool false, rowW [], rowW []]
theorem two_next (i : Nat) : ((2 ^ (i + 1) : Nat) : Int) = ((2 ^ i : Nat) : Int) + ((2 ^ i : Nat) : Int) := by rw [Nat.pow_succ]; omega
def rgrInv (r : Raw) (b i : Nat) : St := lay 46 [(2, .rptr [bool r.s, rowW r.n, rowW r.d]), (4, .ptr 0 0), (6, .ptr 1 0), (20, nat b), (21, nat i)] [(0, zeroF), (1, cW ((2 ^ i : Nat) : Int))]
/-! ### Out -/
end Lw
