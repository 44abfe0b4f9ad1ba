/- The statements about images and powers of displacements, run. No condition. -/
import Derived.Test.YtfdllnbmjlhliaaGreatDoorLwPf
namespace Lw
open Go Go.RowKit Go.Proofs

variable {G : World → Prop}

theorem FRat_same (hG : Steady G) {k : Nat} {a : Rat} (s : SzQ k a) (hk : k ≤ KB) : Spec Tryz.prog G 20 [F a, F a] (bool true) := by
  have h := RatF_spec (G := G) (b := a) hG s hk
  rw [decide_eq_true rfl] at h
  exact h
theorem place_same (hG : Steady G) {k : Nat} {a b : Rat} (s : SzQ k a) (s' : SzQ k b) (hk : k ≤ KB) : Spec Tryz.prog G 23 [FPl a b, FPl a b] (bool true) :=
  Spec.of_run hG Tryz.func23 (ro := [2, 3]) (m := 60) [.call (FRat_same hG s hk), .call (FRat_same hG s' hk)] (by kernel_rfl)
theorem pose_same (hG : Steady G) {k : Nat} {m : Mv} (h : m.ok k) (hk : k ≤ KB) : Spec Tryz.prog G 28 [m.dat, m.dat] (bool true) := by
  obtain ⟨t, h', x, y⟩ := m
  have r1 := FRat_same (G := G) hG h.1 hk
  have p1 := place_same (G := G) hG h.2.1 h.2.2.1 hk
  cases h' with
  | true => exact Spec.of_run hG Tryz.func28 (ro := [2, 3]) (m := 60) [.call r1, .call p1] (by kernel_rfl)
  | false => exact Spec.of_run hG Tryz.func28 (ro := [2, 3]) (m := 60) [.call r1, .call p1] (by kernel_rfl)
/-- The canonical cells of a displacement, of a place. -/
def Mv.raw (m : Mv) : RPo := ⟨⟨rawOf m.t, m.h⟩, ⟨rawOf m.x, rawOf m.y⟩⟩
theorem RPo.valid_elim {k : Nat} {p : RPo} (hk : p.ok k) (hv : p.valid = true) : ∃ m : Mv, m.ok k ∧ p = m.raw := by
  have hc := (RPo.canon hv).2
  obtain ⟨⟨t, h⟩, ⟨x, y⟩⟩ := p
  unfold RPo.valid RTn.valid RPl.valid at hv
  simp only [Bool.and_eq_true] at hv
  obtain ⟨⟨h1, -⟩, h2, h3⟩ := hv
  obtain ⟨k1, k2, k3⟩ := hk
  refine ⟨⟨t.q, h, x.q, y.q⟩, ⟨Raw.ok.sz k1, Raw.ok.sz k2, Raw.ok.sz k3, hc⟩, ?_⟩
  unfold Mv.raw
  show (⟨⟨t, h⟩, ⟨x, y⟩⟩ : RPo) = ⟨⟨rawOf t.q, h⟩, ⟨rawOf x.q, rawOf y.q⟩⟩
  rw [← Raw.canon h1, ← Raw.canon h2, ← Raw.canon h3]
theorem RPl.valid_elim {k : Nat} {p : RPl} (hk : p.ok k) (hv : p.valid = true) : ∃ x y : Rat, SzQ k x ∧ SzQ k y ∧ p = ⟨rawOf x, rawOf y⟩ := by
  obtain ⟨x, y⟩ := p
  unfold RPl.valid at hv
  simp only [Bool.and_eq_true] at hv
  refine ⟨x.q, y.q, Raw.ok.sz hk.1, Raw.ok.sz hk.2, ?_⟩
  show (⟨x, y⟩ : RPl) = ⟨rawOf x.q, rawOf y.q⟩
  rw [← Raw.canon hv.1, ← Raw.canon hv.2]

/-! ### PoseImages -/
theorem Images_valid (hG : Steady G) {m : Mv} {q : RPl} (hm : m.ok 2) (hq : q.ok 2) (h1 : m.raw.short) (h2 : q.short) : Spec Tryz.prog G 3 [m.raw.dat, q.dat] (bool true) := by
  have kb := KB_eq
  have aw := awake17_spec (G := G) hG
  have sh := (Short1 (G := G) hG m.raw).1 h1
  have sp := (ShortPl1 (G := G) hG q).1 h2
  obtain ⟨t, h, X, Y⟩ := m
  obtain ⟨st, sX, sY, vt⟩ := hm
  have hok : RPo.ok 2 (Mv.raw ⟨t, h, X, Y⟩) := ⟨st.ok, st.ok |> fun _ => sX.ok, sY.ok⟩
  have hval : (Mv.raw ⟨t, h, X, Y⟩).valid = true := FPo_valid vt
  have dr := PDir_ok (G := G) hG st vt (by omega)
  have pv := PValidF (G := G) hG st sX sY vt (by omega)
  have rv := PRValid_spec (G := G) hG hok (by omega)
  rw [hval] at rv
  have rt := PRTurn_spec (G := G) hG (r := ⟨rawOf t, h⟩) st.ok (by omega)
  rw [FTn_valid vt] at rt
  have rd := PRdir_spec (G := G) (h := h) hG st (by omega)
  have rc := FRat_same (G := G) hG (st.cosT h) (by omega)
  have rs := FRat_same (G := G) hG (st.sinT h) (by omega)
  have rp := PRPlace_spec (G := G) hG hq (by omega)
  have i2 := Is_err (G := G) hG 2 2
  have i8 := Is_err (G := G) hG 8 8
  have z0 := place_same (G := G) hG (sz_zero (k := 1) (by omega)) (sz_zero (k := 1) (by omega)) (by omega)
  have sl := PRStill_spec (G := G) (h := h) hG st (by omega)
  cases hw : q.valid with
  | false =>
    rw [hw] at rp
    have ap := PApply_bad2 (G := G) hG hok hq (by omega) (by omega) hval hw
    by_cases hs : h = false ∧ t = 0
    · obtain ⟨rfl, rfl⟩ := hs
      rw [show (!false && decide ((0 : Rat) = 0)) = true by rw [decide_eq_true rfl]; rfl] at sl
      have fx := PFixed_still (G := G) hG sX sY (by omega)
      exact Spec.of_run hG Tryz.func3 (ro := [2, 3]) (m := 60) [.call aw, .call sh, .call sp, .call dr, .call ap, .call fx, .call pv, .call rv, .call rt, .call rd, .call rc, .call rs, .call rv, .call rp, .call i2, .call z0, .call rv, .call sl, .call i8, .call z0] (by kernel_rfl)
    · have fx := PFixed_ok (G := G) hG st sX sY vt hs (by omega)
      have hsl : (!h && decide (t = 0)) = false := by
        rw [Bool.and_eq_false_iff]
        cases h with
        | true => exact .inl rfl
        | false => exact .inr (decide_eq_false fun e => hs ⟨rfl, e⟩)
      rw [hsl] at sl
      obtain ⟨e1, e2⟩ := fix_ref vt hs X Y
      have rf := PRFixed_spec (G := G) (h := h) hG st sX sY hs (by omega)
      rw [← e1, ← e2] at rf
      have ps := place_same (G := G) (k := 100) hG (((((sz_1.sub (st.cosT h)).mul sX).sub ((st.sinT h).mul sY)).div (sz_2.mul (sz_1.sub (st.cosT h)))).mono (by omega)) (((((sz_1.sub (st.cosT h)).mul sY).add ((st.sinT h).mul sX)).div (sz_2.mul (sz_1.sub (st.cosT h)))).mono (by omega)) (by omega)
      exact Spec.of_run hG Tryz.func3 (ro := [2, 3]) (m := 60) [.call aw, .call sh, .call sp, .call dr, .call ap, .call fx, .call pv, .call rv, .call rt, .call rd, .call rc, .call rs, .call rv, .call rp, .call i2, .call z0, .call rv, .call sl, .call rf, .call ps] (by kernel_rfl)
  | true =>
    obtain ⟨a, b, sa, sb, rfl⟩ := RPl.valid_elim hq hw
    rw [hw] at rp
    have ap := PApply_ok (G := G) hG st sX sY vt sa sb (by omega)
    have ra := PRApply_spec (G := G) (h := h) hG st sX sY sa sb (by omega)
    obtain ⟨j1, j2⟩ := st.img sX sY sa sb h
    have pa := place_same (G := G) hG j1 j2 (by omega)
    by_cases hs : h = false ∧ t = 0
    · obtain ⟨rfl, rfl⟩ := hs
      rw [show (!false && decide ((0 : Rat) = 0)) = true by rw [decide_eq_true rfl]; rfl] at sl
      have fx := PFixed_still (G := G) hG sX sY (by omega)
      exact Spec.of_run hG Tryz.func3 (ro := [2, 3]) (m := 60) [.call aw, .call sh, .call sp, .call dr, .call ap, .call fx, .call pv, .call rv, .call rt, .call rd, .call rc, .call rs, .call rv, .call rp, .call ra, .call pa, .call rv, .call sl, .call i8, .call z0] (by kernel_rfl)
    · have fx := PFixed_ok (G := G) hG st sX sY vt hs (by omega)
      have hsl : (!h && decide (t = 0)) = false := by
        rw [Bool.and_eq_false_iff]
        cases h with
        | true => exact .inl rfl
        | false => exact .inr (decide_eq_false fun e => hs ⟨rfl, e⟩)
      rw [hsl] at sl
      obtain ⟨e1, e2⟩ := fix_ref vt hs X Y
      have rf := PRFixed_spec (G := G) (h := h) hG st sX sY hs (by omega)
      rw [← e1, ← e2] at rf
      have ps := place_same (G := G) (k := 100) hG (((((sz_1.sub (st.cosT h)).mul sX).sub ((st.sinT h).mul sY)).div (sz_2.mul (sz_1.sub (st.cosT h)))).mono (by omega)) (((((sz_1.sub (st.cosT h)).mul sY).add ((st.sinT h).mul sX)).div (sz_2.mul (sz_1.sub (st.cosT h)))).mono (by omega)) (by omega)
      exact Spec.of_run hG Tryz.func3 (ro := [2, 3]) (m := 60) [.call aw, .call sh, .call sp, .call dr, .call ap, .call fx, .call pv, .call rv, .call rt, .call rd, .call rc, .call rs, .call rv, .call rp, .call ra, .call pa, .call rv, .call sl, .call rf, .call ps] (by kernel_rfl)
theorem Images_spec (hG : Steady G) {p : RPo} {q : RPl} (hp : p.digs) (hq : q.digs) : Spec Tryz.prog G 3 [p.dat, q.dat] (bool true) := by
  have aw := awake17_spec (G := G) hG
  by_cases h1 : p.short
  case neg => exact Spec.of_run hG Tryz.func3 (ro := [2, 3]) (m := 60) [.call aw, .call ((Short1 hG p).2 h1), .call aw] (by kernel_rfl)
  have sh := (Short1 (G := G) hG p).1 h1
  by_cases h2 : q.short
  case neg => exact Spec.of_run hG Tryz.func3 (ro := [2, 3]) (m := 60) [.call aw, .call sh, .call ((ShortPl1 hG q).2 h2), .call aw] (by kernel_rfl)
  have sp := (ShortPl1 (G := G) hG q).1 h2
  have kb := KB_eq
  have kp := RPo.short_ok hp h1
  have kq := RPl.short_ok hq h2
  cases hv : p.valid with
  | true =>
    obtain ⟨m, hm, rfl⟩ := RPo.valid_elim kp hv
    exact Images_valid hG hm kq h1 h2
  | false =>
    have ap := PApply_bad1 (G := G) (q := q) hG kp (by omega) hv
    have fx := PFixed_bad (G := G) hG kp (by omega) hv
    have pv := PValid_spec (G := G) hG kp (by omega)
    have rv := PRValid_spec (G := G) hG kp (by omega)
    rw [hv] at pv rv
    have rt := PRTurn_spec (G := G) hG kp.1 (by omega)
    have i2 := Is_err (G := G) hG 2 2
    have z0 := place_same (G := G) hG (sz_zero (k := 1) (by omega)) (sz_zero (k := 1) (by omega)) (by omega)
    have r0 := FRat_same (G := G) hG (sz_zero (k := 1) (by omega)) (by omega)
    cases hu : p.u.valid with
    | false =>
      rw [hu] at rt
      have dr := PDir_bad (G := G) hG kp.1 (by omega) hu
      exact Spec.of_run hG Tryz.func3 (ro := [2, 3]) (m := 60) [.call aw, .call sh, .call sp, .call dr, .call ap, .call fx, .call pv, .call rv, .call rt, .call i2, .call r0, .call r0, .call rv, .call i2, .call z0, .call rv, .call i2, .call z0] (by kernel_rfl)
    | true =>
      rw [hu] at rt
      obtain ⟨e, vt⟩ := RTn.canon hu
      have st := Raw.ok.sz kp.1
      have dr := PDir_ok (G := G) hG st vt (by omega)
      have rd := PRdir_spec (G := G) (h := p.u.h) hG st (by omega)
      have rc := FRat_same (G := G) hG (st.cosT p.u.h) (by omega)
      have rs := FRat_same (G := G) hG (st.sinT p.u.h) (by omega)
      rw [← e] at dr rd
      exact Spec.of_run hG Tryz.func3 (ro := [2, 3]) (m := 60) [.call aw, .call sh, .call sp, .call dr, .call ap, .call fx, .call pv, .call rv, .call rt, .call rd, .call rc, .call rs, .call rv, .call i2, .call z0, .call rv, .call i2, .call z0] (by kernel_rfl)

/-! ### PosePowers -/
theorem Powers_spec (hG : Steady G) {p : RPo} (hp : p.digs) (n : Int) : Spec Tryz.prog G 4 [p.dat, int n] (bool true) := by
  have aw := awake17_spec (G := G) hG
  by_cases h1 : p.short
  case neg => exact Spec.of_run hG Tryz.func4 (ro := [2]) (m := 60) [.call aw, .call ((Short1 hG p).2 h1), .call aw] (by kernel_rfl)
  have sh := (Short1 (G := G) hG p).1 h1
  have kb := KB_eq
  have kp := RPo.short_ok hp h1
  have rv := PRValid_spec (G := G) hG kp (by omega)
  have i2 := Is_err (G := G) hG 2 2
  have i3 := Is_err (G := G) hG 3 3
  have z0 := pose_same (G := G) hG (Mv.none_ok (k := 1) (by omega)) (by omega)
  cases hv : p.valid with
  | false =>
    rw [hv] at rv
    have pw := PPow_bad (G := G) hG kp (by omega) hv n
    exact Spec.of_run hG Tryz.func4 (ro := [2]) (m := 60) [.call aw, .call sh, .call pw, .call rv, .call i2, .call z0] (by kernel_rfl)
  | true =>
    rw [hv] at rv
    obtain ⟨m, hm, rfl⟩ := RPo.valid_elim kp hv
    by_cases n0 : n < 0
    · have pw := PPow_low (G := G) hG hm n0
      exact Spec.of_run hG Tryz.func4 (ro := [2]) (m := 60) [.call aw, .call sh, .call pw, .call rv, .eq 36 (eqB (decide_eq_true n0)), .call i3, .call z0] (by kernel_rfl)
    · by_cases n8 : n > 8
      · have pw := PPow_high (G := G) hG hm n0 n8
        exact Spec.of_run hG Tryz.func4 (ro := [2]) (m := 60) [.call aw, .call sh, .call pw, .call rv, .eq 36 (eqB (decide_eq_false n0)), .eq 39 (eqB (decide_eq_true n8)), .call i3, .call z0] (by kernel_rfl)
      · obtain ⟨k, rfl⟩ : ∃ k : Nat, n = Int.ofNat k := ⟨n.toNat, by show n = (n.toNat : Int); omega⟩
        have hk : k ≤ 8 := by simp only [Int.ofNat_eq_natCast] at n8; omega
        have pw := PPow_ok (G := G) hG hm hk
        have ok8 : (m.pow k).ok (56 * 2 ^ 8) := (Mv.pow_ok hm k).mono (by
          have := Nat.pow_le_pow_right (n := 2) (by omega) hk
          omega)
        have ps := pose_same (G := G) hG ok8 (by rw [KB_eq]; decide)
        clear n0 n8 ok8
        match k, hk with
        | 0, _ => exact Spec.of_run hG Tryz.func4 (ro := [2]) (m := 60) [.call aw, .call sh, .call pw, .call rv, .call ps] (by kernel_rfl)
        | 1, _ => exact Spec.of_run hG Tryz.func4 (ro := [2]) (m := 60) [.call aw, .call sh, .call pw, .call rv, .call (pow_stepR hG hm 0 (by omega)), .call ps] (by kernel_rfl)
        | 2, _ => exact Spec.of_run hG Tryz.func4 (ro := [2]) (m := 60) [.call aw, .call sh, .call pw, .call rv, .call (pow_stepR hG hm 0 (by omega)), .call (pow_stepR hG hm 1 (by omega)), .call ps] (by kernel_rfl)
        | 3, _ => exact Spec.of_run hG Tryz.func4 (ro := [2]) (m := 60) [.call aw, .call sh, .call pw, .call rv, .call (pow_stepR hG hm 0 (by omega)), .call (pow_stepR hG hm 1 (by omega)), .call (pow_stepR hG hm 2 (by omega)), .call ps] (by kernel_rfl)
        | 4, _ => exact Spec.of_run hG Tryz.func4 (ro := [2]) (m := 60) [.call aw, .call sh, .call pw, .call rv, .call (pow_stepR hG hm 0 (by omega)), .call (pow_stepR hG hm 1 (by omega)), .call (pow_stepR hG hm 2 (by omega)), .call (pow_stepR hG hm 3 (by omega)), .call ps] (by kernel_rfl)
        | 5, _ => exact Spec.of_run hG Tryz.func4 (ro := [2]) (m := 60) [.call aw, .call sh, .call pw, .call rv, .call (pow_stepR hG hm 0 (by omega)), .call (pow_stepR hG hm 1 (by omega)), .call (pow_stepR hG hm 2 (by omega)), .call (pow_stepR hG hm 3 (by omega)), .call (pow_stepR hG hm 4 (by omega)), .call ps] (by kernel_rfl)
        | 6, _ => exact Spec.of_run hG Tryz.func4 (ro := [2]) (m := 60) [.call aw, .call sh, .call pw, .call rv, .call (pow_stepR hG hm 0 (by omega)), .call (pow_stepR hG hm 1 (by omega)), .call (pow_stepR hG hm 2 (by omega)), .call (pow_stepR hG hm 3 (by omega)), .call (pow_stepR hG hm 4 (by omega)), .call (pow_stepR hG hm 5 (by omega)), .call ps] (by kernel_rfl)
        | 7, _ => exact Spec.of_run hG Tryz.func4 (ro := [2]) (m := 60) [.call aw, .call sh, .call pw, .call rv, .call (pow_stepR hG hm 0 (by omega)), .call (pow_stepR hG hm 1 (by omega)), .call (pow_stepR hG hm 2 (by omega)), .call (pow_stepR hG hm 3 (by omega)), .call (pow_stepR hG hm 4 (by omega)), .call (pow_stepR hG hm 5 (by omega)), .call (pow_stepR hG hm 6 (by omega)), .call ps] (by kernel_rfl)
        | 8, _ => exact Spec.of_run hG Tryz.func4 (ro := [2]) (m := 60) [.call aw, .call sh, .call pw, .call rv, .call (pow_stepR hG hm 0 (by omega)), .call (pow_stepR hG hm 1 (by omega)), .call (pow_stepR hG hm 2 (by omega)), .call (pow_stepR hG hm 3 (by omega)), .call (pow_stepR hG hm 4 (by omega)), .call (pow_stepR hG hm 5 (by omega)), .call (pow_stepR hG hm 6 (by omega)), .call (pow_stepR hG hm 7 (by omega)), .call ps] (by kernel_rfl)
end Lw
