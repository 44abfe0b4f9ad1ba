/- The statements about images and powers of displacements, run. No condition. -/
import Derived.Test.YtobmipmefimfpaaGreatDoorLwPf
namespace Lw
open Go Go.RowKit Go.Proofs

variable {G : World → Prop}

theorem FRat_same (hG : Steady G) {k : Nat} {a : Rat} (s : SzQ k a) (hk : k ≤ KB) : Spec Tryz.prog G 17 [F a, F a] (bool true) := by
  have h := RatF_spec (G := G) (b := a) hG s hk
  rw [decide_eq_true rfl] at h
  exact h
/-- The canonical cells of a displacement, of a place. -/
def Mv.raw (m : Mv) : RPo := ⟨⟨rawOf m.t, m.h⟩, ⟨rawOf m.x, rawOf m.y⟩⟩
theorem RPo.valid_elim {k : Nat} {p : RPo} (hk : p.ok k) (hv : p.valid = true) : ∃ m : Mv, m.ok k ∧ p = m.raw := by
  have hc := (RPo.canon hv).2
  obtain ⟨⟨t, h⟩, ⟨x, y⟩⟩ := p
  unfold RPo.valid RTn.valid RPl.valid at hv
  simp only [Bool.and_eq_true] at hv
  obtain ⟨⟨h1, -⟩, h2, h3⟩ := hv
  obtain ⟨k1, k2, k3⟩ := hk
  refine ⟨⟨t.q, h, x.q, y.q⟩, ⟨Raw.ok.sz k1, Raw.ok.sz k2, Raw.ok.sz k3, hc⟩, ?_⟩
  unfold Mv.raw
  show (⟨⟨t, h⟩, ⟨x, y⟩⟩ : RPo) = ⟨⟨rawOf t.q, h⟩, ⟨rawOf x.q, rawOf y.q⟩⟩
  rw [← Raw.canon h1, ← Raw.canon h2, ← Raw.canon h3]
theorem RPl.valid_elim {k : Nat} {p : RPl} (hk : p.ok k) (hv : p.valid = true) : ∃ x y : Rat, SzQ k x ∧ SzQ k y ∧ p = ⟨rawOf x, rawOf y⟩ := by
  obtain ⟨x, y⟩ := p
  unfold RPl.valid at hv
  simp only [Bool.and_eq_true] at hv
  refine ⟨x.q, y.q, Raw.ok.sz hk.1, Raw.ok.sz hk.2, ?_⟩
  show (⟨x, y⟩ : RPl) = ⟨rawOf x.q, rawOf y.q⟩
  rw [← Raw.canon hv.1, ← Raw.canon hv.2]

/-! ### PoseImages -/
/-! ### PosePowers -/
end Lw
