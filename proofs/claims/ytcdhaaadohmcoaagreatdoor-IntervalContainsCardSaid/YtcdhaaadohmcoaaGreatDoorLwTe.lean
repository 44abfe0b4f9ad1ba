/- The statement about sums, products, quotients and hulls of intervals, run. No condition. -/
import Derived.Test.YtcdhaaadohmcoaaGreatDoorLwTc
namespace Lw
open Go Go.RowKit Go.Proofs

variable {G : World → Prop}

theorem short_two (hG : Steady G) (r q : RRaw) : Spec Tryz.prog G 10 [.row 2 false (r.cells ++ q.cells)] (bool (r.short && q.short)) := by
  unfold RRaw.short
  by_cases h0 : r.lo.n.length ≤ 8
  · rw [decide_eq_true h0]
    by_cases h1 : r.lo.d.length ≤ 8
    · rw [decide_eq_true h1]
      by_cases h2 : r.hi.n.length ≤ 8
      · rw [decide_eq_true h2]
        by_cases h3 : r.hi.d.length ≤ 8
        · rw [decide_eq_true h3]
          by_cases h4 : q.lo.n.length ≤ 8
          · rw [decide_eq_true h4]
            by_cases h5 : q.lo.d.length ≤ 8
            · rw [decide_eq_true h5]
              by_cases h6 : q.hi.n.length ≤ 8
              · rw [decide_eq_true h6]
                by_cases h7 : q.hi.d.length ≤ 8
                · rw [decide_eq_true h7]
                  exact Spec.of_run hG Tryz.func10 (ro := []) (m := 40) [.eq 15 (eqB (gt8_false h0)), .eq 21 (eqB (gt8_false h1)), .eq 28 (eqB (gt8_false h2)), .eq 35 (eqB (gt8_false h3)), .eq 15 (eqB (gt8_false h4)), .eq 21 (eqB (gt8_false h5)), .eq 28 (eqB (gt8_false h6)), .eq 35 (eqB (gt8_false h7))] (by kernel_rfl)
                · rw [decide_eq_false h7]
                  exact Spec.of_run hG Tryz.func10 (ro := []) (m := 40) [.eq 15 (eqB (gt8_false h0)), .eq 21 (eqB (gt8_false h1)), .eq 28 (eqB (gt8_false h2)), .eq 35 (eqB (gt8_false h3)), .eq 15 (eqB (gt8_false h4)), .eq 21 (eqB (gt8_false h5)), .eq 28 (eqB (gt8_false h6)), .eq 35 (eqB (gt8_true h7))] (by kernel_rfl)
              · rw [decide_eq_false h6]
                exact Spec.of_run hG Tryz.func10 (ro := []) (m := 40) [.eq 15 (eqB (gt8_false h0)), .eq 21 (eqB (gt8_false h1)), .eq 28 (eqB (gt8_false h2)), .eq 35 (eqB (gt8_false h3)), .eq 15 (eqB (gt8_false h4)), .eq 21 (eqB (gt8_false h5)), .eq 28 (eqB (gt8_true h6))] (by kernel_rfl)
            · rw [decide_eq_false h5]
              exact Spec.of_run hG Tryz.func10 (ro := []) (m := 40) [.eq 15 (eqB (gt8_false h0)), .eq 21 (eqB (gt8_false h1)), .eq 28 (eqB (gt8_false h2)), .eq 35 (eqB (gt8_false h3)), .eq 15 (eqB (gt8_false h4)), .eq 21 (eqB (gt8_true h5))] (by kernel_rfl)
          · rw [decide_eq_false h4]
            exact Spec.of_run hG Tryz.func10 (ro := []) (m := 40) [.eq 15 (eqB (gt8_false h0)), .eq 21 (eqB (gt8_false h1)), .eq 28 (eqB (gt8_false h2)), .eq 35 (eqB (gt8_false h3)), .eq 15 (eqB (gt8_true h4))] (by kernel_rfl)
        · rw [decide_eq_false h3]
          exact Spec.of_run hG Tryz.func10 (ro := []) (m := 40) [.eq 15 (eqB (gt8_false h0)), .eq 21 (eqB (gt8_false h1)), .eq 28 (eqB (gt8_false h2)), .eq 35 (eqB (gt8_true h3))] (by kernel_rfl)
      · rw [decide_eq_false h2]
        exact Spec.of_run hG Tryz.func10 (ro := []) (m := 40) [.eq 15 (eqB (gt8_false h0)), .eq 21 (eqB (gt8_false h1)), .eq 28 (eqB (gt8_true h2))] (by kernel_rfl)
    · rw [decide_eq_false h1]
      exact Spec.of_run hG Tryz.func10 (ro := []) (m := 40) [.eq 15 (eqB (gt8_false h0)), .eq 21 (eqB (gt8_true h1))] (by kernel_rfl)
  · rw [decide_eq_false h0]
    exact Spec.of_run hG Tryz.func10 (ro := []) (m := 40) [.eq 15 (eqB (gt8_true h0))] (by kernel_rfl)
theorem Computes_long (hG : Steady G) (r q : RRaw) (h : (r.short && q.short) = false) : Spec Tryz.prog G 7 [r.dat, q.dat] (bool true) := by
  have s := short_two (G := G) hG r q
  rw [h] at s
  exact Spec.of_run hG Tryz.func7 (ro := [2, 3]) (m := 60) [.call s, .call (awake_spec hG)] (by kernel_rfl)
theorem SzQ.mulLo {k l : Nat} {a b c d : Rat} (ha : SzQ k a) (hb : SzQ k b) (hc : SzQ l c) (hd : SzQ l d) : SzQ (k + l) (mulLo a b c d) := (((ha.mul hc).min (ha.mul hd)).min (hb.mul hc)).min (hb.mul hd)
theorem SzQ.mulHi {k l : Nat} {a b c d : Rat} (ha : SzQ k a) (hb : SzQ k b) (hc : SzQ l c) (hd : SzQ l d) : SzQ (k + l) (mulHi a b c d) := (((ha.mul hc).max (ha.mul hd)).max (hb.mul hc)).max (hb.mul hd)
theorem Computes_spec (hG : Steady G) {r q : RRaw} (hr : r.digs) (hq : q.digs) : Spec Tryz.prog G 7 [r.dat, q.dat] (bool true) := by
  cases hs : (r.short && q.short) with
  | false => exact Computes_long hG r q hs
  | true =>
    have s := short_two (G := G) hG r q
    rw [hs] at s
    simp only [Bool.and_eq_true] at hs
    have kb := KB_eq
    have hx := RRaw.isI (RRaw.short_ok hr hs.1)
    have hy := RRaw.isI (RRaw.short_ok hq hs.2)
    obtain ⟨sa, sb⟩ := hx.szL
    obtain ⟨sc, sd⟩ := hy.szL
    have z0 := SameI_refl (G := G) hG (sz_zero (k := 1) (by omega)) (sz_zero (k := 1) (by omega)) (by omega)
    have aw := awake_spec (G := G) hG
    have n1 := INeg_spec hG hx (by omega)
    have n2 := RINeg_spec hG hx (by omega)
    have sn := SameI_refl (G := G) hG sb.neg sa.neg (by omega)
    have a1 := IAdd_spec hG hx hy (by omega) (by omega)
    have a2 := RIAdd_spec hG hx hy (by omega)
    have sadd := SameI_refl (G := G) hG (sa.add sc) (sb.add sd) (by omega)
    have b1 := ISub_spec hG hx hy (by omega) (by omega)
    have b2 := RISub_spec hG hx hy (by omega)
    have ssub := SameI_refl (G := G) hG (sa.sub sd) (sb.sub sc) (by omega)
    have m1 := IMul_spec hG hx hy (by omega)
    have m2 := RIMul_spec hG hx hy (by omega)
    have smul := SameI_refl (G := G) hG (SzQ.mulLo sa sb sc sd) (SzQ.mulHi sa sb sc sd) (by omega)
    have h1 := IHull_spec hG hx hy (by omega) (by omega)
    have h2 := RIHull_spec hG hx hy (by omega)
    have sh := SameI_refl (G := G) hG (sa.min sc) (sb.max sd) (by omega)
    have e0 := Num_nil (G := G) hG
    have e8 := Num_err (G := G) hG 8
    have e16 := Num_err (G := G) hG 16
    by_cases hc : q.L ≤ 0 ∧ 0 ≤ q.H
    · have d1 := IDiv_zero hG hx hy (by omega) hc
      have d2 := RIDiv_zero hG hx hy (by omega) hc
      by_cases hm : max r.L q.L ≤ min r.H q.H
      · have t1 := IMeet_ok hG hx hy (by omega) hm
        have t2 := RIMeet_ok hG hx hy (by omega) hm
        have st := SameI_refl (G := G) hG (sa.max sc) (sb.min sd) (by omega)
        exact Spec.of_run hG Tryz.func7 (ro := [2, 3]) (m := 60)
          [.call s, .call aw, .call d1, .call t1, .call d2, .call t2, .call n1, .call n2, .call sn, .call a1, .call a2, .call sadd, .call b1, .call b2, .call ssub, .call m1, .call m2, .call smul, .call e8, .call z0, .call h1, .call h2, .call sh, .call e0, .call st] (by kernel_rfl)
      · have t1 := IMeet_bad hG hx hy (by omega) hm
        have t2 := RIMeet_bad hG hx hy (by omega) hm
        exact Spec.of_run hG Tryz.func7 (ro := [2, 3]) (m := 60)
          [.call s, .call aw, .call d1, .call t1, .call d2, .call t2, .call n1, .call n2, .call sn, .call a1, .call a2, .call sadd, .call b1, .call b2, .call ssub, .call m1, .call m2, .call smul, .call e8, .call z0, .call h1, .call h2, .call sh, .call e16, .call z0] (by kernel_rfl)
    · have d1 := IDiv_spec hG hx hy (by omega) hc
      have d2 := RIDiv_spec hG hx hy (by omega) hc
      have o1 := sz_one (k := 1) (by omega)
      have sdv := SameI_refl (G := G) hG (SzQ.mulLo sa sb (o1.div sd) (o1.div sc)) (SzQ.mulHi sa sb (o1.div sd) (o1.div sc)) (by omega)
      by_cases hm : max r.L q.L ≤ min r.H q.H
      · have t1 := IMeet_ok hG hx hy (by omega) hm
        have t2 := RIMeet_ok hG hx hy (by omega) hm
        have st := SameI_refl (G := G) hG (sa.max sc) (sb.min sd) (by omega)
        exact Spec.of_run hG Tryz.func7 (ro := [2, 3]) (m := 60)
          [.call s, .call aw, .call d1, .call t1, .call d2, .call t2, .call n1, .call n2, .call sn, .call a1, .call a2, .call sadd, .call b1, .call b2, .call ssub, .call m1, .call m2, .call smul, .call e0, .call sdv, .call h1, .call h2, .call sh, .call e0, .call st] (by kernel_rfl)
      · have t1 := IMeet_bad hG hx hy (by omega) hm
        have t2 := RIMeet_bad hG hx hy (by omega) hm
        exact Spec.of_run hG Tryz.func7 (ro := [2, 3]) (m := 60)
          [.call s, .call aw, .call d1, .call t1, .call d2, .call t2, .call n1, .call n2, .call sn, .call a1, .call a2, .call sadd, .call b1, .call b2, .call ssub, .call m1, .call m2, .call smul, .call e0, .call sdv, .call h1, .call h2, .call sh, .call e16, .call z0] (by kernel_rfl)
end Lw
