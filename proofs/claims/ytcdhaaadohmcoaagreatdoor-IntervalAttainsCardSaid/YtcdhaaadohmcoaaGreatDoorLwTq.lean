/- The statement about enclosed square roots of intervals, run. No condition. -/
import Derived.Test.YtcdhaaadohmcoaaGreatDoorLwTp
namespace Lw
open Go Go.RowKit Go.Proofs

variable {G : World → Prop}

def u8 (n : Nat) : D := .lit (.int .u8 (Int.ofNat n))
theorem absQ_nonneg (a : Rat) : 0 ≤ absQ a := by unfold absQ; split <;> grind
theorem SzQ.abs {k : Nat} {a : Rat} (h : SzQ k a) : SzQ k (absQ a) := by unfold absQ; split; (· exact h.neg); exact h
theorem root_le {L H X : Rat} {n : Nat} (h0 : 0 ≤ L) (hLH : L ≤ H) (hX : 0 ≤ X) (h1 : L ≤ X * X) (h2 : X * X ≤ H) : rootLo L n ≤ X ∧ X ≤ rootHi H n := by
  obtain ⟨a1, a2, -⟩ := rootLo_says h0 n
  obtain ⟨b1, b2, -⟩ := rootHi_says (Rat.le_trans h0 hLH) n
  exact ⟨sq_cancel hX (Rat.le_trans a2 h1), sq_cancel b1 (Rat.le_trans h2 b2)⟩
theorem root_order {L H : Rat} (n : Nat) (h0 : 0 ≤ L) (hLH : L ≤ H) : rootLo L n ≤ rootHi H n := by
  obtain ⟨a1, a2, -⟩ := rootLo_says h0 n
  obtain ⟨b1, b2, -⟩ := rootHi_says (Rat.le_trans h0 hLH) n
  exact sq_cancel b1 (Rat.le_trans a2 (Rat.le_trans hLH b2))
theorem rootLo_zero (n : Nat) : rootLo 0 n = 0 := by
  unfold rootLo
  rw [Rat.zero_mul, show (0 : Rat).floor.natAbs = 0 from rfl, isq_zero]
  show (0 : Rat) / twoQ n = 0
  rw [Rat.div_def, Rat.zero_mul]
theorem rootHi_zero (n : Nat) : rootHi 0 n = 0 := by
  unfold rootHi isqUp
  rw [Rat.zero_mul, show (-(-(0 : Rat)).floor) = 0 from rfl, show (0 : Int).natAbs = 0 from rfl, isq_zero, if_neg (by omega)]
  show (0 : Rat) / twoQ n = 0
  rw [Rat.div_def, Rat.zero_mul]
theorem step_of (n : Nat) : Rat.divInt 1 ((2 ^ n : Nat) : Int) = 1 / twoQ n := by rw [Rat.divInt_eq_div]; rfl
theorem shl_int {n : Nat} (h : n < 40) : IntKind.wrap .i64 (1 * 2 ^ min (Int.ofNat n).toNat (IntKind.bits .i64)) = ((2 ^ n : Nat) : Int) := by
  have e : min (Int.ofNat n).toNat (IntKind.bits .i64) = n := by
    show min n 64 = n
    omega
  have h2 : 2 ^ n < 2 ^ 40 := Nat.pow_lt_pow_right (by omega) h
  have h40 : (2:Nat) ^ 40 = 1099511627776 := by decide
  have e2 : ((2:Int) ^ n) = ((2 ^ n : Nat) : Int) := by rw [Int.natCast_pow]; rfl
  rw [e, Int.one_mul, e2]
  generalize 2 ^ n = w at *
  exact wrapS (by omega) (by omega)
theorem sgn0 {a : Rat} (h : a = 0) : (sgn a == 0) = true := by rw [beq_iff_eq]; exact sgn_zero.2 h
theorem sgn_ne0 {a : Rat} (h : ¬ a = 0) : (sgn a == 0) = false := by rw [beq_eq_false_iff_ne]; exact fun hh => h (sgn_zero.1 hh)
theorem RRaw.lo_of {r : RRaw} (h : r.valid = true) : r.L = r.lo.q ∧ r.H = r.hi.q := by unfold RRaw.L RRaw.H; rw [if_pos h, if_pos h]; exact ⟨rfl, rfl⟩
theorem RRaw.none_of {r : RRaw} (h : r.valid = false) : r.L = 0 ∧ r.H = 0 := by unfold RRaw.L RRaw.H; rw [if_neg (by rw [h]; simp), if_neg (by rw [h]; simp)]; exact ⟨rfl, rfl⟩
theorem cmpQ_le_false {a b : Rat} (h : b < a) : decide (cmpQ a b ≤ 0) = false := decide_eq_false fun hh => by have := cmpQ_le.1 hh; rw [← Rat.not_lt] at this; exact this h
theorem Roots_long1 (hG : Steady G) (r : RRaw) (x : Raw) (b : Nat) (h : r.short = false) : Spec Tryz.prog G 5 [r.dat, x.dat, u8 b] (bool true) := by
  have s := short_one (G := G) hG r
  rw [h] at s
  exact Spec.of_run hG Tryz.func5 (ro := [3, 4]) (m := 60) [.call s, .call (awake_spec hG)] (by kernel_rfl)
theorem Roots_long2 (hG : Steady G) (r : RRaw) (x : Raw) (b : Nat) (h : r.short = true) (h2 : ¬ x.n.length ≤ 8) : Spec Tryz.prog G 5 [r.dat, x.dat, u8 b] (bool true) := by
  have s := short_one (G := G) hG r
  rw [h] at s
  exact Spec.of_run hG Tryz.func5 (ro := [3, 4]) (m := 60) [.call s, .eq 22 (eqB (gt8_true h2)), .call (awake_spec hG)] (by kernel_rfl)
theorem Roots_long3 (hG : Steady G) (r : RRaw) (x : Raw) (b : Nat) (h : r.short = true) (h2 : x.n.length ≤ 8) (h3 : ¬ x.d.length ≤ 8) : Spec Tryz.prog G 5 [r.dat, x.dat, u8 b] (bool true) := by
  have s := short_one (G := G) hG r
  rw [h] at s
  exact Spec.of_run hG Tryz.func5 (ro := [3, 4]) (m := 60) [.call s, .eq 22 (eqB (gt8_false h2)), .eq 28 (eqB (gt8_true h3)), .call (awake_spec hG)] (by kernel_rfl)
theorem Roots_spec (hG : Steady G) {r : RRaw} (hr : r.digs) {x : Raw} (hxn : Dig x.n) (hxd : Dig x.d) {b : Nat} : Spec Tryz.prog G 5 [r.dat, x.dat, u8 b] (bool true) := by
  cases hs : r.short with
  | false => exact Roots_long1 hG r x b hs
  | true =>
    by_cases h2 : x.n.length ≤ 8
    · by_cases h3 : x.d.length ≤ 8
      · have s := short_one (G := G) hG r
        rw [hs] at s
        have kb := KB_eq
        have rk := RK_eq
        have hrk := RRaw.short_ok hr hs
        have hx := RRaw.isI hrk
        obtain ⟨sa, sb⟩ := hx.szL
        have hn : b % 40 < 40 := Nat.mod_lt _ (by omega)
        have hn' : b % 40 ≤ 256 := by omega
        have aw := awake_spec (G := G) hG
        have h60 : (2:Nat) ^ 60 = 1152921504606846976 := by decide
        have e36 : D.lit (.int .u8 ((Int.ofNat b).tmod (Int.ofNat 40))) = u8 (b % 40) := rfl
        have e37 : IntKind.wrap .i64 (Int.ofNat (b % 40)) = Int.ofNat (b % 40) := convS (by omega)
        by_cases h0 : r.L < 0
        · have hv : r.valid = true := by
            cases hv : r.valid with
            | true => rfl
            | false => rw [(RRaw.none_of hv).1] at h0; exact absurd h0 Rat.lt_irrefl
          have h0' : r.lo.q < 0 := by rw [← (RRaw.lo_of hv).1]; exact h0
          have sg := FSign_spec (G := G) hG (Raw.ok.isQ hrk.1) (by omega)
          exact Spec.of_run hG Tryz.func5 (ro := [3, 4]) (m := 60)
            [.call s, .eq 22 (eqB (gt8_false h2)), .eq 28 (eqB (gt8_false h3)), .call aw, .eq 36 e36, .eq 37 (eqS e37), .call (IRoot_low hG hx (by omega) hn' h0), .call (Is_err hG 3 3), .call sg, .eq 52 (eqB (sgn_lt_true h0'))] (by kernel_rfl)
        · have h0' := rat_le_neg h0
          have hLH := hx.le
          have r1 := IRoot_spec hG hx (by omega) hn' h0'
          obtain ⟨t1, t2⟩ := SzQ.root sa sb (Rat.le_trans h0' hLH) hn'
          have okx : x.ok 8 := ⟨hxn, hxd, h2, h3, by omega⟩
          have ab := FAbs_spec (G := G) hG (Raw.ok.isQ okx) (by omega)
          have sX : SzQ 8 (absQ x.q) := okx.sz.abs
          have hX := absQ_nonneg x.q
          generalize absQ x.q = X at *
          have mx := FMul_spec (G := G) hG sX.isQ sX.isQ (by omega) (by omega)
          have ct := Contains_spec (G := G) hG hx (sX.mul sX).isQ (by omega) (by omega)
          have rv := RIValid_spec (G := G) hG hrk (by omega)
          obtain ⟨l1, l2, l3⟩ := rootLo_says h0' (b % 40)
          obtain ⟨u1, u2, u3⟩ := rootHi_says (Rat.le_trans h0' hLH) (b % 40)
          have hord := root_order (b % 40) h0' hLH
          have cr := Contains_spec (G := G) hG (FR_isI t1 t2 hord) sX.isQ (by omega) (by omega)
          cases hv : r.valid with
          | false =>
            rw [hv] at rv
            obtain ⟨z1, z2⟩ := RRaw.none_of hv
            have s1 := FSign_spec (G := G) hG t1.isQ (by omega)
            have s2 := FSign_spec (G := G) hG t2.isQ (by omega)
            have e1 := sgn0 (a := rootLo r.L (b % 40)) (by rw [z1]; exact rootLo_zero _)
            have e2 := sgn0 (a := rootHi r.H (b % 40)) (by rw [z2]; exact rootHi_zero _)
            by_cases hc : r.L ≤ X * X ∧ X * X ≤ r.H
            · obtain ⟨k1, k2⟩ := root_le (n := b % 40) h0' hLH hX hc.1 hc.2
              rw [decide_eq_true hc.1, decide_eq_true hc.2] at ct
              rw [decide_eq_true k1, decide_eq_true k2] at cr
              exact Spec.of_run hG Tryz.func5 (ro := [3]) (m := 60)
                [.call s, .eq 22 (eqB (gt8_false h2)), .eq 28 (eqB (gt8_false h3)), .call aw, .eq 36 e36, .eq 37 (eqS e37), .call r1, .call ab, .call mx, .call ct, .call cr, .call rv, .call s1, .eq 73 (eqB e1), .call s2, .eq 78 (eqB e2)] (by kernel_rfl)
            · have ec : (decide (r.L ≤ X * X) && decide (X * X ≤ r.H)) = false := by rw [← Bool.decide_and]; exact decide_eq_false hc
              rw [ec] at ct
              exact Spec.of_run hG Tryz.func5 (ro := [3]) (m := 60)
                [.call s, .eq 22 (eqB (gt8_false h2)), .eq 28 (eqB (gt8_false h3)), .call aw, .eq 36 e36, .eq 37 (eqS e37), .call r1, .call ab, .call mx, .call ct, .call rv, .call s1, .eq 73 (eqB e1), .call s2, .eq 78 (eqB e2)] (by kernel_rfl)
          | true =>
            rw [hv] at rv
            obtain ⟨z1, z2⟩ := RRaw.lo_of hv
            have qlo : IsQ 8 r.lo.dat r.L := by rw [z1]; exact Raw.ok.isQ hrk.1
            have qhi : IsQ 8 r.hi.dat r.H := by rw [z2]; exact Raw.ok.isQ hrk.2
            have h40 : 2 ^ (b % 40) < 2 ^ 40 := Nat.pow_lt_pow_right (by omega) hn
            have h40' : (2:Nat) ^ 40 = 1099511627776 := by decide
            have hp2 := Nat.two_pow_pos (b % 40)
            have mk := FMake_spec (G := G) hG (i := 1) (j := ((2 ^ (b % 40) : Nat) : Int)) (by omega) (by omega) (by omega) (by omega) (by omega)
            rw [step_of] at mk
            have su : SzQ 10 (1 / twoQ (b % 40)) := (sz_one (k := 1) (by omega)).div (sz_twoQ hn')
            have fm := FAdd_spec (G := G) hG t1.isQ su.isQ (by omega) (by omega)
            have fl := FSub_spec (G := G) hG t2.isQ su.isQ (by omega) (by omega)
            have sm := t1.add su
            have sl := t2.sub su
            generalize rootLo r.L (b % 40) = lo at *
            generalize rootHi r.H (b % 40) = hi at *
            generalize 1 / twoQ (b % 40) = u at *
            have m1 := FMul_spec (G := G) hG t1.isQ t1.isQ (by omega) (by omega)
            have c1 := FCmp_spec (G := G) hG (t1.mul t1).isQ qlo (by omega) (by omega)
            have m2 := FMul_spec (G := G) hG sm.isQ sm.isQ (by omega) (by omega)
            have c2 := FCmp_spec (G := G) hG (sm.mul sm).isQ qlo (by omega) (by omega)
            have m3 := FMul_spec (G := G) hG t2.isQ t2.isQ (by omega) (by omega)
            have c3 := FCmp_spec (G := G) hG (t2.mul t2).isQ qhi (by omega) (by omega)
            have m4 := FMul_spec (G := G) hG sl.isQ sl.isQ (by omega) (by omega)
            have c4 := FCmp_spec (G := G) hG (sl.mul sl).isQ qhi (by omega) (by omega)
            have sh := FSign_spec (G := G) hG t2.isQ (by omega)
            have e1 := cmpQ_gt_false l2
            have e2 := cmpQ_le_false l3
            have e3 : decide (cmpQ (hi * hi) r.H < 0) = false := cmpQ_lt_false (by rw [Rat.not_lt]; exact u2)
            have e82 := shl_int hn
            by_cases hz : hi = 0
            · have e4 := sgn0 hz
              by_cases hc : r.L ≤ X * X ∧ X * X ≤ r.H
              · obtain ⟨k1, k2⟩ : lo ≤ X ∧ X ≤ hi := ⟨sq_cancel hX (Rat.le_trans l2 hc.1), sq_cancel u1 (Rat.le_trans hc.2 u2)⟩
                rw [decide_eq_true hc.1, decide_eq_true hc.2] at ct
                rw [decide_eq_true k1, decide_eq_true k2] at cr
                exact Spec.of_run hG Tryz.func5 (ro := [3]) (m := 60)
                  [.call s, .eq 22 (eqB (gt8_false h2)), .eq 28 (eqB (gt8_false h3)), .call aw, .eq 36 e36, .eq 37 (eqS e37), .call r1, .call ab, .call mx, .call ct, .call cr, .call rv, .prop (nn_need (b % 40)), .eq 82 (eqS e82), .call mk, .call fm, .call fl,
                   .call m1, .call c1, .eq 105 (eqB e1), .call m2, .call c2, .eq 114 (eqB e2), .call m3, .call c3, .eq 125 (eqB e3), .call sh, .eq 130 (eqB e4)] (by kernel_rfl)
              · have ec : (decide (r.L ≤ X * X) && decide (X * X ≤ r.H)) = false := by rw [← Bool.decide_and]; exact decide_eq_false hc
                rw [ec] at ct
                exact Spec.of_run hG Tryz.func5 (ro := [3]) (m := 60)
                  [.call s, .eq 22 (eqB (gt8_false h2)), .eq 28 (eqB (gt8_false h3)), .call aw, .eq 36 e36, .eq 37 (eqS e37), .call r1, .call ab, .call mx, .call ct, .call rv, .prop (nn_need (b % 40)), .eq 82 (eqS e82), .call mk, .call fm, .call fl,
                   .call m1, .call c1, .eq 105 (eqB e1), .call m2, .call c2, .eq 114 (eqB e2), .call m3, .call c3, .eq 125 (eqB e3), .call sh, .eq 130 (eqB e4)] (by kernel_rfl)
            · have e4 := sgn_ne0 hz
              have u3' : (hi - u) * (hi - u) < r.H := by
                rcases u3 with q | q
                · exact absurd q hz
                · exact q
              have e5 := cmpQ_lt_true u3'
              by_cases hc : r.L ≤ X * X ∧ X * X ≤ r.H
              · obtain ⟨k1, k2⟩ : lo ≤ X ∧ X ≤ hi := ⟨sq_cancel hX (Rat.le_trans l2 hc.1), sq_cancel u1 (Rat.le_trans hc.2 u2)⟩
                rw [decide_eq_true hc.1, decide_eq_true hc.2] at ct
                rw [decide_eq_true k1, decide_eq_true k2] at cr
                exact Spec.of_run hG Tryz.func5 (ro := [3]) (m := 60)
                  [.call s, .eq 22 (eqB (gt8_false h2)), .eq 28 (eqB (gt8_false h3)), .call aw, .eq 36 e36, .eq 37 (eqS e37), .call r1, .call ab, .call mx, .call ct, .call cr, .call rv, .prop (nn_need (b % 40)), .eq 82 (eqS e82), .call mk, .call fm, .call fl,
                   .call m1, .call c1, .eq 105 (eqB e1), .call m2, .call c2, .eq 114 (eqB e2), .call m3, .call c3, .eq 125 (eqB e3), .call sh, .eq 130 (eqB e4), .call m4, .call c4, .eq 138 (eqB e5)] (by kernel_rfl)
              · have ec : (decide (r.L ≤ X * X) && decide (X * X ≤ r.H)) = false := by rw [← Bool.decide_and]; exact decide_eq_false hc
                rw [ec] at ct
                exact Spec.of_run hG Tryz.func5 (ro := [3]) (m := 60)
                  [.call s, .eq 22 (eqB (gt8_false h2)), .eq 28 (eqB (gt8_false h3)), .call aw, .eq 36 e36, .eq 37 (eqS e37), .call r1, .call ab, .call mx, .call ct, .call rv, .prop (nn_need (b % 40)), .eq 82 (eqS e82), .call mk, .call fm, .call fl,
                   .call m1, .call c1, .eq 105 (eqB e1), .call m2, .call c2, .eq 114 (eqB e2), .call m3, .call c3, .eq 125 (eqB e3), .call sh, .eq 130 (eqB e4), .call m4, .call c4, .eq 138 (eqB e5)] (by kernel_rfl)
      · exact Roots_long3 hG r x b hs h2 h3
    · exact Roots_long2 hG r x b hs h2
end Lw
