/- The contracts of the reference's square roots of intervals, and of equal intervals. No condition. -/
import Derived.Test.YtfdllnbmjlhliaaGreatDoorLwRh
namespace Lw
open Go Go.RowKit Go.Proofs

variable {G : World → Prop}

/-! ### Same -/
/-! ### Div -/
theorem one_div_pos_le {c d : Rat} (h : c ≤ d) (hc : ¬ (c ≤ 0 ∧ 0 ≤ d)) : c ≠ 0 ∧ d ≠ 0 ∧ ((1 : Int) : Rat) / d ≤ ((1 : Int) : Rat) / c := by
  have e1 : ((1 : Int) : Rat) = 1 := rfl
  rw [e1]
  have h0 : c ≠ 0 := fun e => hc ⟨by grind, by grind⟩
  have h1 : d ≠ 0 := fun e => hc ⟨by grind, by grind⟩
  refine ⟨h0, h1, ?_⟩
  have k1 : (1 / c) * c = 1 := Rat.div_mul_cancel h0
  have k2 : (1 / d) * d = 1 := Rat.div_mul_cancel h1
  generalize 1 / c = u at *
  generalize 1 / d = v at *
  have hsame : 0 < c * d := by
    by_cases hcp : 0 < c
    · exact Rat.mul_pos hcp (by grind)
    · have hcn : c < 0 := by grind
      have hdn : d < 0 := by
        rcases Rat.le_total (a := 0) (b := d) with q | q
        · exact absurd ⟨Rat.le_of_lt hcn, q⟩ hc
        · exact Rat.lt_of_le_of_ne q h1
      have := Rat.mul_pos (a := -c) (b := -d) (by grind) (by grind)
      grind
  have key : v * (c * d) ≤ u * (c * d) := by
    have a1 : v * (c * d) = c := by grind
    have a2 : u * (c * d) = d := by grind
    rw [a1, a2]; exact h
  exact Rat.le_of_mul_le_mul_right key hsame
theorem sz_one {k : Nat} (h : 0 < k) : SzQ k ((1 : Int) : Rat) := sz_int h (by show (words 1).length ≤ k; rw [len_one]; omega)
end Lw
