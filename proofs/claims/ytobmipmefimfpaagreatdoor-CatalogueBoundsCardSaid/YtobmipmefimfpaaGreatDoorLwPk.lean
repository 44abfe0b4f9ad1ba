/- The statement about displacements one behind another, run. No condition. -/
import Derived.Test.YtobmipmefimfpaaGreatDoorLwPj
namespace Lw
open Go Go.RowKit Go.Proofs

variable {G : World → Prop}

def Mv.inv (m : Mv) : Mv := ⟨-m.t, m.h, rotX (-m.t) m.h (-m.x) (-m.y), rotY (-m.t) m.h (-m.x) (-m.y)⟩
def Mv.bet (m w : Mv) : Mv := m.inv.next w
theorem Mv.inv_ok {k : Nat} {m : Mv} (h : m.ok k) : m.inv.ok (10 * k + 9) := by
  obtain ⟨r1, r2⟩ := h.1.neg.rot h.2.1.neg h.2.2.1.neg m.h
  exact ⟨h.1.neg.mono (by omega), r1.mono (by omega), r2.mono (by omega), neg_valid h.2.2.2⟩
/-- The same fields. -/
def Mv.eqB (m w : Mv) : Bool := (m.h == w.h) && (decide (m.t = w.t) && (decide (m.x = w.x) && decide (m.y = w.y)))
theorem cmp_eq {a b : Rat} (h : a = b) : (cmpQ a b == 0) = true := by
  rw [beq_iff_eq, ← cmpQ_sub, sgn_zero]
  grind
theorem cmp_ne {a b : Rat} (h : ¬ a = b) : (cmpQ a b == 0) = false := by
  rw [beq_eq_false_iff_ne, ← cmpQ_sub]
  intro e
  have := sgn_zero.1 e
  exact h (by grind)
end Lw
