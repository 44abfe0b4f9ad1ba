/- The statement about sums, products, quotients and hulls of intervals, run. No condition. -/
import Derived.Test.YticigjdakdbbjaaGreatDoorLwTc
namespace Lw
open Go Go.RowKit Go.Proofs

variable {G : World → Prop}

theorem short_two (hG : Steady G) (r q : RRaw) : Spec Tryz.prog G 4 [.row 2 false (r.cells ++ q.cells)] (bool (r.short && q.short)) := by
  unfold RRaw.short
  by_cases h0 : r.lo.n.length ≤ 8
  · rw [decide_eq_true h0]
    by_cases h1 : r.lo.d.length ≤ 8
    · rw [decide_eq_true h1]
      by_cases h2 : r.hi.n.length ≤ 8
      · rw [decide_eq_true h2]
        by_cases h3 : r.hi.d.length ≤ 8
        · rw [decide_eq_true h3]
          by_cases h4 : q.lo.n.length ≤ 8
          · rw [decide_eq_true h4]
            by_cases h5 : q.lo.d.length ≤ 8
            · rw [decide_eq_true h5]
              by_cases h6 : q.hi.n.length ≤ 8
              · rw [decide_eq_true h6]
                by_cases h7 : q.hi.d.length ≤ 8
                · rw [decide_eq_true h7]
                  exact Spec.of_run hG Tryz.func4 (ro := []) (m := 40) [.eq 15 (eqB (gt8_false h0)), .eq 21 (eqB (gt8_false h1)), .eq 28 (eqB (gt8_false h2)), .eq 35 (eqB (gt8_false h3)), .eq 15 (eqB (gt8_false h4)), .eq 21 (eqB (gt8_false h5)), .eq 28 (eqB (gt8_false h6)), .eq 35 (eqB (gt8_false h7))] (by kernel_rfl)
                · rw [decide_eq_false h7]
                  exact Spec.of_run hG Tryz.func4 (ro := []) (m := 40) [.eq 15 (eqB (gt8_false h0)), .eq 21 (eqB (gt8_false h1)), .eq 28 (eqB (gt8_false h2)), .eq 35 (eqB (gt8_false h3)), .eq 15 (eqB (gt8_false h4)), .eq 21 (eqB (gt8_false h5)), .eq 28 (eqB (gt8_false h6)), .eq 35 (eqB (gt8_true h7))] (by kernel_rfl)
              · rw [decide_eq_false h6]
                exact Spec.of_run hG Tryz.func4 (ro := []) (m := 40) [.eq 15 (eqB (gt8_false h0)), .eq 21 (eqB (gt8_false h1)), .eq 28 (eqB (gt8_false h2)), .eq 35 (eqB (gt8_false h3)), .eq 15 (eqB (gt8_false h4)), .eq 21 (eqB (gt8_false h5)), .eq 28 (eqB (gt8_true h6))] (by kernel_rfl)
            · rw [decide_eq_false h5]
              exact Spec.of_run hG Tryz.func4 (ro := []) (m := 40) [.eq 15 (eqB (gt8_false h0)), .eq 21 (eqB (gt8_false h1)), .eq 28 (eqB (gt8_false h2)), .eq 35 (eqB (gt8_false h3)), .eq 15 (eqB (gt8_false h4)), .eq 21 (eqB (gt8_true h5))] (by kernel_rfl)
          · rw [decide_eq_false h4]
            exact Spec.of_run hG Tryz.func4 (ro := []) (m := 40) [.eq 15 (eqB (gt8_false h0)), .eq 21 (eqB (gt8_false h1)), .eq 28 (eqB (gt8_false h2)), .eq 35 (eqB (gt8_false h3)), .eq 15 (eqB (gt8_true h4))] (by kernel_rfl)
        · rw [decide_eq_false h3]
          exact Spec.of_run hG Tryz.func4 (ro := []) (m := 40) [.eq 15 (eqB (gt8_false h0)), .eq 21 (eqB (gt8_false h1)), .eq 28 (eqB (gt8_false h2)), .eq 35 (eqB (gt8_true h3))] (by kernel_rfl)
      · rw [decide_eq_false h2]
        exact Spec.of_run hG Tryz.func4 (ro := []) (m := 40) [.eq 15 (eqB (gt8_false h0)), .eq 21 (eqB (gt8_false h1)), .eq 28 (eqB (gt8_true h2))] (by kernel_rfl)
    · rw [decide_eq_false h1]
      exact Spec.of_run hG Tryz.func4 (ro := []) (m := 40) [.eq 15 (eqB (gt8_false h0)), .eq 21 (eqB (gt8_true h1))] (by kernel_rfl)
  · rw [decide_eq_false h0]
    exact Spec.of_run hG Tryz.func4 (ro := []) (m := 40) [.eq 15 (eqB (gt8_true h0))] (by kernel_rfl)
theorem SzQ.mulLo {k l : Nat} {a b c d : Rat} (ha : SzQ k a) (hb : SzQ k b) (hc : SzQ l c) (hd : SzQ l d) : SzQ (k + l) (mulLo a b c d) := (((ha.mul hc).min (ha.mul hd)).min (hb.mul hc)).min (hb.mul hd)
theorem SzQ.mulHi {k l : Nat} {a b c d : Rat} (ha : SzQ k a) (hb : SzQ k b) (hc : SzQ l c) (hd : SzQ l d) : SzQ (k + l) (mulHi a b c d) := (((ha.mul hc).max (ha.mul hd)).max (hb.mul hc)).max (hb.mul hd)
end Lw
