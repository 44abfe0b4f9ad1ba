/- The statement about displacements one behind another, run. No condition. -/
import Derived.Test.YthccbdlkfiogiaaGreatDoorLwPj
namespace Lw
open Go Go.RowKit Go.Proofs

variable {G : World → Prop}

def Mv.inv (m : Mv) : Mv := ⟨-m.t, m.h, rotX (-m.t) m.h (-m.x) (-m.y), rotY (-m.t) m.h (-m.x) (-m.y)⟩
def Mv.bet (m w : Mv) : Mv := m.inv.next w
theorem Mv.inv_ok {k : Nat} {m : Mv} (h : m.ok k) : m.inv.ok (10 * k + 9) := by
  obtain ⟨r1, r2⟩ := h.1.neg.rot h.2.1.neg h.2.2.1.neg m.h
  exact ⟨h.1.neg.mono (by omega), r1.mono (by omega), r2.mono (by omega), neg_valid h.2.2.2⟩
theorem PInvM (hG : Steady G) {k : Nat} {m : Mv} (h : m.ok k) (hk : 10 * k + 10 ≤ KB) : Spec Tryz.prog G 43 [m.dat] (.tup [m.inv.dat, .lit .nilIface]) := PInv_ok hG h.1 h.2.1 h.2.2.1 h.2.2.2 hk
theorem PRInvM (hG : Steady G) {k : Nat} {m : Mv} (h : m.ok k) (hk : 10 * k + 20 ≤ KB) : Spec Tryz.prog G 53 [m.dat] m.inv.dat := PRInv_spec hG h.1 h.2.1 h.2.2.1 hk
theorem PBetM (hG : Steady G) {k l : Nat} {m w : Mv} (h : m.ok k) (g : w.ok l) (hk : 9 * l + 20 * k + 30 ≤ KB) : Spec Tryz.prog G 41 [m.dat, w.dat] (.tup [(m.bet w).dat, .lit .nilIface]) :=
  PBet_ok hG h.1 h.2.1 h.2.2.1 g.1 g.2.1 g.2.2.1 h.2.2.2 g.2.2.2 hk
theorem PRBetM (hG : Steady G) {k l : Nat} {m w : Mv} (h : m.ok k) (g : w.ok l) (hk : 9 * l + 20 * k + 30 ≤ KB) : Spec Tryz.prog G 19 [m.dat, w.dat] (m.bet w).dat :=
  PRBet_spec hG h.1 h.2.1 h.2.2.1 g.1 g.2.1 g.2.2.1 h.2.2.2 g.2.2.2 hk
/-- The same fields. -/
def Mv.eqB (m w : Mv) : Bool := (m.h == w.h) && (decide (m.t = w.t) && (decide (m.x = w.x) && decide (m.y = w.y)))
theorem cmp_eq {a b : Rat} (h : a = b) : (cmpQ a b == 0) = true := by
  rw [beq_iff_eq, ← cmpQ_sub, sgn_zero]
  grind
theorem cmp_ne {a b : Rat} (h : ¬ a = b) : (cmpQ a b == 0) = false := by
  rw [beq_eq_false_iff_ne, ← cmpQ_sub]
  intro e
  have := sgn_zero.1 e
  exact h (by grind)
theorem PSame_spec (hG : Steady G) {k l : Nat} {m w : Mv} (hm : m.ok k) (hw : w.ok l) (hk : k ≤ KB) (hl : l ≤ KB) : Spec Tryz.prog G 44 [m.dat, w.dat] (.tup [bool (m.eqB w), .lit .nilIface]) := by
  have v1 := PValidM (G := G) hG hm hk
  have v2 := PValidM (G := G) hG hw hl
  obtain ⟨t, h, x, y⟩ := m
  obtain ⟨t', h', x', y'⟩ := w
  have c1 := FCmp_spec (G := G) hG hm.1.isQ hw.1.isQ hk hl
  have c2 := FCmp_spec (G := G) hG hm.2.1.isQ hw.2.1.isQ hk hl
  have c3 := FCmp_spec (G := G) hG hm.2.2.1.isQ hw.2.2.1.isQ hk hl
  clear hm hw
  have key : ∀ b : Bool, (h == h') = b → Spec Tryz.prog G 44 [Mv.dat ⟨t, h, x, y⟩, Mv.dat ⟨t', h', x', y'⟩] (.tup [bool (b && (decide (t = t') && (decide (x = x') && decide (y = y')))), .lit .nilIface]) := fun b hb => by
    cases b with
    | false => exact Spec.of_run hG Tryz.func44 (ro := [2, 3]) (m := 60) [.call v1, .call v2, .eq 21 (Lw.eqB hb)] (by kernel_rfl)
    | true =>
      by_cases h1 : t = t'
      · rw [decide_eq_true h1]
        by_cases h2 : x = x'
        · rw [decide_eq_true h2]
          by_cases h3 : y = y'
          · rw [decide_eq_true h3]
            exact Spec.of_run hG Tryz.func44 (ro := [2, 3]) (m := 60) [.call v1, .call v2, .eq 21 (Lw.eqB hb), .call c1, .eq 30 (Lw.eqB (cmp_eq h1)), .call c2, .eq 40 (Lw.eqB (cmp_eq h2)), .call c3, .eq 50 (Lw.eqB (cmp_eq h3))] (by kernel_rfl)
          · rw [decide_eq_false h3]
            exact Spec.of_run hG Tryz.func44 (ro := [2, 3]) (m := 60) [.call v1, .call v2, .eq 21 (Lw.eqB hb), .call c1, .eq 30 (Lw.eqB (cmp_eq h1)), .call c2, .eq 40 (Lw.eqB (cmp_eq h2)), .call c3, .eq 50 (Lw.eqB (cmp_ne h3))] (by kernel_rfl)
        · rw [decide_eq_false h2]
          exact Spec.of_run hG Tryz.func44 (ro := [2, 3]) (m := 60) [.call v1, .call v2, .eq 21 (Lw.eqB hb), .call c1, .eq 30 (Lw.eqB (cmp_eq h1)), .call c2, .eq 40 (Lw.eqB (cmp_ne h2))] (by kernel_rfl)
      · rw [decide_eq_false h1]
        exact Spec.of_run hG Tryz.func44 (ro := [2, 3]) (m := 60) [.call v1, .call v2, .eq 21 (Lw.eqB hb), .call c1, .eq 30 (Lw.eqB (cmp_ne h1))] (by kernel_rfl)
  exact key _ rfl
theorem PSame_bad1 (hG : Steady G) {k : Nat} {p q : RPo} (hp : p.ok k) (hk : k ≤ KB) (hv : p.valid = false) : Spec Tryz.prog G 44 [p.dat, q.dat] (.tup [bool false, errno 2]) := by
  have v1 := PValid_spec (G := G) hG hp hk
  rw [hv] at v1
  exact Spec.of_run hG Tryz.func44 (ro := [2, 3]) (m := 60) [.call v1] (by kernel_rfl)
theorem PSame_bad2 (hG : Steady G) {k : Nat} {p q : RPo} (hp : p.ok k) (hq : q.ok k) (hk : k ≤ KB) (hv : p.valid = true) (hw : q.valid = false) : Spec Tryz.prog G 44 [p.dat, q.dat] (.tup [bool false, errno 2]) := by
  have v1 := PValid_spec (G := G) hG hp hk
  have v2 := PValid_spec (G := G) hG hq hk
  rw [hv] at v1
  rw [hw] at v2
  exact Spec.of_run hG Tryz.func44 (ro := [2, 3]) (m := 60) [.call v1, .call v2] (by kernel_rfl)
theorem PRSamePl_spec (hG : Steady G) {k l : Nat} {x y x' y' : Rat} (sx : SzQ k x) (sy : SzQ k y) (sx' : SzQ l x') (sy' : SzQ l y') (hk : k + l < KB) : Spec Tryz.prog G 74 [FPl x y, FPl x' y'] (bool (decide (x = x') && decide (y = y'))) := by
  have c2 := RFCmp_spec (G := G) hG sx.isQ sx'.isQ hk
  have c3 := RFCmp_spec (G := G) hG sy.isQ sy'.isQ hk
  by_cases h2 : x = x'
  · rw [decide_eq_true h2]
    by_cases h3 : y = y'
    · rw [decide_eq_true h3]
      exact Spec.of_run hG Tryz.func74 (ro := [2, 3]) (m := 60) [.call c2, .eq 10 (Lw.eqB (cmp_eq h2)), .call c3, .eq 17 (Lw.eqB (cmp_eq h3))] (by kernel_rfl)
    · rw [decide_eq_false h3]
      exact Spec.of_run hG Tryz.func74 (ro := [2, 3]) (m := 60) [.call c2, .eq 10 (Lw.eqB (cmp_eq h2)), .call c3, .eq 17 (Lw.eqB (cmp_ne h3))] (by kernel_rfl)
  · rw [decide_eq_false h2]
    exact Spec.of_run hG Tryz.func74 (ro := [2, 3]) (m := 60) [.call c2, .eq 10 (Lw.eqB (cmp_ne h2))] (by kernel_rfl)
end Lw
