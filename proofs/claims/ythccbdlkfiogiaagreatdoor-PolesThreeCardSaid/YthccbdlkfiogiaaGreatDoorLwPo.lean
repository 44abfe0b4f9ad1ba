/- The statements about poles, run (all but the lists). No condition. -/
import Derived.Test.YthccbdlkfiogiaaGreatDoorLwPn
namespace Lw
open Go Go.RowKit Go.Proofs

variable {G : World → Prop}

/-! ### awake -/
theorem none_ok2 : Mv.none.ok 2 := Mv.none_ok (by omega)
theorem aw45_pole (hG : Steady G) : Spec Tryz.prog G 12 [Mv.none.dat, qua.dat] (.tup [FPl q12 q12, .lit .nilIface]) := by
  have h := Pole_ok (G := G) hG none_ok2 qua_ok (by decide +kernel)
  rw [show (Mv.none.bet qua).fixX = q12 by decide +kernel, show (Mv.none.bet qua).fixY = q12 by decide +kernel] at h
  exact h
theorem aw45_bis (hG : Steady G) : Spec Tryz.prog G 25 [Mv.none.dat, qua.dat, FPl 0 0] (.tup [F 1, F 0, F q12, .lit .nilIface]) := by
  have h := Bis_ok (G := G) (a := 0) (b := 0) hG none_ok2 qua_ok (sz_zero (by omega)) (sz_zero (by omega)) (by decide +kernel)
  rw [show bisA Mv.none qua 0 0 = 1 by decide +kernel, show bisB Mv.none qua 0 0 = 0 by decide +kernel, show bisC Mv.none qua 0 0 = q12 by decide +kernel] at h
  exact h
theorem awake45_spec (hG : Steady G) : Spec Tryz.prog G 10 [] (bool true) := by
  have t1 := FText_p1 (G := G) hG
  have t2 := FText_q12 (G := G) hG
  have sg := FSign_spec (G := G) hG isQ_zero (by rw [KB_eq]; omega)
  rw [sgn_zero.2 rfl] at sg
  exact Spec.of_run hG Tryz.func10 (ro := []) (m := 60)
    [.call (Quarter_spec hG), .call (aw45_pole hG), .call (Quarter_spec hG), .call (aw45_bis hG), .call t2, .call t2, .call t1, .call sg, .call t2] (by kernel_rfl)

/-! ### small ones -/
theorem same45 (hG : Steady G) {k : Nat} {a b : Rat} (s : SzQ k a) (s' : SzQ k b) (hk : k ≤ KB) : Spec Tryz.prog G 16 [FPl a b, FPl a b] (bool true) :=
  Spec.of_run hG Tryz.func16 (ro := [2, 3]) (m := 60) [.call (FRat_same hG s hk), .call (FRat_same hG s' hk)] (by kernel_rfl)
theorem equal45 (hG : Steady G) {k : Nat} {m : Mv} (h : m.ok k) (hk : k ≤ KB) : Spec Tryz.prog G 32 [m.dat, m.dat] (bool true) := by
  obtain ⟨t, h', x, y⟩ := m
  have r1 := FRat_same (G := G) hG h.1 hk
  have p1 := same45 (G := G) hG h.2.1 h.2.2.1 hk
  cases h' with
  | true => exact Spec.of_run hG Tryz.func32 (ro := [2, 3]) (m := 60) [.call r1, .call p1] (by kernel_rfl)
  | false => exact Spec.of_run hG Tryz.func32 (ro := [2, 3]) (m := 60) [.call r1, .call p1] (by kernel_rfl)
theorem dist45 (hG : Steady G) {k : Nat} {a b x y : Rat} (sa : SzQ k a) (sb : SzQ k b) (sx : SzQ k x) (sy : SzQ k y) (hk : 4 * k + 4 ≤ KB) : Spec Tryz.prog G 29 [FPl a b, FPl x y] (F (dst2 a b x y)) := by
  have d1 := FSub_spec (G := G) hG sa.isQ sx.isQ (by omega) (by omega)
  have d2 := FSub_spec (G := G) hG sb.isQ sy.isQ (by omega) (by omega)
  have m1 := FMul_spec (G := G) hG (sa.sub sx).isQ (sa.sub sx).isQ (by omega) (by omega)
  have m2 := FMul_spec (G := G) hG (sb.sub sy).isQ (sb.sub sy).isQ (by omega) (by omega)
  have ad := FAdd_spec (G := G) hG ((sa.sub sx).mul (sa.sub sx)).isQ ((sb.sub sy).mul (sb.sub sy)).isQ (by omega) (by omega)
  exact Spec.of_run hG Tryz.func29 (ro := [2, 3]) (m := 60) [.call d1, .call d2, .call m1, .call m2, .call ad] (by kernel_rfl)
theorem SzQ.dst2 {k : Nat} {a b x y : Rat} (sa : SzQ k a) (sb : SzQ k b) (sx : SzQ k x) (sy : SzQ k y) : SzQ (8 * k + 5) (Lw.dst2 a b x y) := (((sa.sub sx).mul (sa.sub sx)).add ((sb.sub sy).mul (sb.sub sy))).mono (by omega)
theorem z00 : SzQ 1 (0 : Rat) := sz_zero (by omega)

/-! ### PolesPairs -/
theorem Pairs_spec (hG : Steady G) {p q : RPo} (hp : p.digs) (hq : q.digs) : Spec Tryz.prog G 3 [p.dat, q.dat] (bool true) := by
  have aw := awake45_spec (G := G) hG
  by_cases hsh : p.short ∧ q.short
  case neg => exact Spec.of_run hG Tryz.func3 (ro := [2, 3]) (m := 60) [.call aw, .call ((Short2 hG p q).2 hsh), .call aw] (by kernel_rfl)
  have sh := (Short2 (G := G) hG p q).1 hsh
  have kb := KB_eq
  have kp := RPo.short_ok hp hsh.1
  have kq := RPo.short_ok hq hsh.2
  have rv := PRValid_spec (G := G) hG kp (by omega)
  have rw' := PRValid_spec (G := G) hG kq (by omega)
  have i2 := Is_err (G := G) hG 2 2
  have z0 := same45 (G := G) hG z00 z00 (by omega)
  have r0 := FRat_same (G := G) hG z00 (by omega)
  cases hv : p.valid with
  | false =>
    rw [hv] at rv
    have po := Pole_bad1 (G := G) (q := q) hG kp (by omega) hv
    have an := Angle_bad1 (G := G) (q := q) hG kp (by omega) hv
    exact Spec.of_run hG Tryz.func3 (ro := [2, 3]) (m := 60) [.call aw, .call sh, .call po, .call an, .call rv, .call i2, .call i2, .call z0, .call r0] (by kernel_rfl)
  | true =>
    rw [hv] at rv
    cases hw : q.valid with
    | false =>
      rw [hw] at rw'
      have po := Pole_bad2 (G := G) hG kp kq (by omega) hv hw
      have an := Angle_bad2 (G := G) hG kp kq (by omega) hv hw
      exact Spec.of_run hG Tryz.func3 (ro := [2, 3]) (m := 60) [.call aw, .call sh, .call po, .call an, .call rv, .call rw', .call i2, .call i2, .call z0, .call r0] (by kernel_rfl)
    | true =>
      rw [hw] at rw'
      obtain ⟨m, hm, rfl⟩ := RPo.valid_elim kp hv
      obtain ⟨w, hw', rfl⟩ := RPo.valid_elim kq hw
      have an := Angle_ok (G := G) hG hm hw'
      have rb := PRBetM (G := G) hG hm hw' (by omega)
      have ob := Mv.bet_ok hm hw'
      have rt := FRat_same (G := G) hG ob.1 (by omega)
      by_cases hs : (m.bet w).still
      · have po := Pole_still (G := G) hG hm hw' hs
        have rp := RPole_still (G := G) hG hm hw' hs
        have n8 := Num_err (G := G) hG 8
        exact Spec.of_run hG Tryz.func3 (ro := [2, 3]) (m := 60)
          [.call aw, .call sh, .call po, .call an, .call rv, .call rw', .call rp, .call rb, .call n8, .call z0, .eq 92 (Lw.eqB (beq_self_eq_true (m.bet w).h)), .call rt] (by kernel_rfl)
      · have po := Pole_ok (G := G) hG hm hw' hs
        have rp := RPole_ok (G := G) hG hm hw' hs
        have n0 := Num_nil (G := G) hG
        obtain ⟨f1, f2⟩ := Mv.fix_sz ob
        have sp := same45 (G := G) hG f1 f2 (by omega)
        exact Spec.of_run hG Tryz.func3 (ro := [2, 3]) (m := 60)
          [.call aw, .call sh, .call po, .call an, .call rv, .call rw', .call rp, .call rb, .call n0, .call sp, .eq 92 (Lw.eqB (beq_self_eq_true (m.bet w).h)), .call rt] (by kernel_rfl)

/-! ### PolesStay -/
theorem Stay_spec (hG : Steady G) {p q : RPo} (hp : p.digs) (hq : q.digs) : Spec Tryz.prog G 8 [p.dat, q.dat] (bool true) := by
  have aw := awake45_spec (G := G) hG
  by_cases hsh : p.short ∧ q.short
  case neg => exact Spec.of_run hG Tryz.func8 (ro := [2, 3]) (m := 60) [.call aw, .call ((Short2 hG p q).2 hsh), .call aw] (by kernel_rfl)
  have sh := (Short2 (G := G) hG p q).1 hsh
  have kb := KB_eq
  have kp := RPo.short_ok hp hsh.1
  have kq := RPo.short_ok hq hsh.2
  have v1 := PValid_spec (G := G) hG kp (by omega)
  have v2 := PValid_spec (G := G) hG kq (by omega)
  have i8 := Is_err (G := G) hG 8 8
  cases hv : p.valid with
  | false =>
    rw [hv] at v1
    exact Spec.of_run hG Tryz.func8 (ro := [2, 3]) (m := 60) [.call aw, .call sh, .call v1, .call aw] (by kernel_rfl)
  | true =>
    rw [hv] at v1
    cases hw : q.valid with
    | false =>
      rw [hw] at v2
      exact Spec.of_run hG Tryz.func8 (ro := [2, 3]) (m := 60) [.call aw, .call sh, .call v1, .call v2, .call aw] (by kernel_rfl)
    | true =>
      rw [hw] at v2
      obtain ⟨m, hm, rfl⟩ := RPo.valid_elim kp hv
      obtain ⟨w, hw', rfl⟩ := RPo.valid_elim kq hw
      have fm : m.fit := hm.2.2.2
      have fw : w.fit := hw'.2.2.2
      have an := Angle_ok (G := G) hG hm hw'
      have bt := PBetM (G := G) hG hm hw' (by omega)
      have ob := Mv.bet_ok hm hw'
      by_cases hs : (m.bet w).still
      · have po := Pole_still (G := G) hG hm hw' hs
        have sg := FSign_spec (G := G) hG ob.1.isQ (by omega)
        rw [hs.1] at an
        rw [sgn_zero.2 hs.2] at sg
        exact Spec.of_run hG Tryz.func8 (ro := [2, 3]) (m := 60)
          [.call aw, .call sh, .call v1, .call v2, .call po, .call an, .call bt, .call i8, .call sg] (by kernel_rfl)
      · have po := Pole_ok (G := G) hG hm hw' hs
        obtain ⟨f1, f2⟩ := Mv.fix_sz ob
        have iv := PInvM (G := G) hG hm (by omega)
        have a1 := PApplyM (G := G) hG (Mv.inv_ok hm) f1 f2 (by omega)
        obtain ⟨g1, g2⟩ := Mv.im_sz (Mv.inv_ok hm) f1 f2
        have a2 := PApplyM (G := G) hG hw' g1 g2 (by omega)
        obtain ⟨e1, e2⟩ := Mv.bet_stay fm fw hs
        rw [e1, e2] at a2
        have ab := About_ok (G := G) hG ob.1 ob.2.2.2 f1 f2 (by omega)
        rw [Mv.about_fix hs] at ab
        have ps := PSameSelf (G := G) hG ob (by omega)
        have sp := same45 (G := G) hG f1 f2 (by omega)
        exact Spec.of_run hG Tryz.func8 (ro := [2, 3]) (m := 60)
          [.call aw, .call sh, .call v1, .call v2, .call po, .call an, .call bt, .call iv, .call a1, .call a2, .call ab, .call ps, .call sp] (by kernel_rfl)

/-! ### PolesLines -/
theorem Lines_valid (hG : Steady G) {p q : Mv} {a b : Rat} (hp : p.ok 2) (hq : q.ok 2) (sa : SzQ 2 a) (sb : SzQ 2 b) (h1 : p.raw.short ∧ q.raw.short) (h2 : (RPl.mk (rawOf a) (rawOf b)).short) :
    Spec Tryz.prog G 5 [p.raw.dat, q.raw.dat, FPl a b] (bool true) := by
  have kb := KB_eq
  have aw := awake45_spec (G := G) hG
  have sh := (Short2 (G := G) hG p.raw q.raw).1 h1
  have sp := (ShortPl1 (G := G) hG ⟨rawOf a, rawOf b⟩).1 h2
  have ab := About_ok (G := G) hG hp.1 hp.2.2.2 sa sb (by omega)
  have rab := RAbout_spec (G := G) (h := p.h) hG hp.1 sa sb (by omega)
  have eq := equal45 (G := G) hG (Mv.about_ok hp.1 hp.2.2.2 sa sb) (by omega)
  have rpl := PRPlace_spec (G := G) hG (r := ⟨rawOf a, rawOf b⟩) ⟨sa.ok, sb.ok⟩ (k := 2) (by omega)
  rw [FPl_valid] at rpl
  have rt := PRTurn_spec (G := G) hG (r := ⟨rawOf p.t, p.h⟩) hp.1.ok (by omega)
  rw [FTn_valid hp.2.2.2] at rt
  have rv := PRValid_spec (G := G) hG (Mv.raw_ok hp) (by omega)
  rw [Mv.raw_valid hp] at rv
  have rw' := PRValid_spec (G := G) hG (Mv.raw_ok hq) (by omega)
  rw [Mv.raw_valid hq] at rw'
  obtain ⟨z1, z2, z3⟩ := bis_sz hp hq sa sb
  by_cases hs : bisA p q a b = 0 ∧ bisB p q a b = 0
  · have bi := Bis_same (G := G) hG hp hq sa sb hs
    have rbi := RBis_same (G := G) hG hp hq sa sb hs
    have n8 := Num_err (G := G) hG 8
    have r0 := FRat_same (G := G) hG z00 (by omega)
    exact Spec.of_run hG Tryz.func5 (ro := [3, 4, 5]) (m := 60)
      [.call aw, .call sh, .call sp, .call ab, .call bi, .call rpl, .call rt, .call rab, .call eq, .call rv, .call rw', .call rpl, .call rbi, .call n8, .inl [] Tryz.func34, .call r0, .call r0, .call r0] (by kernel_rfl)
  · have bi := Bis_ok (G := G) hG hp hq sa sb hs
    have rbi := RBis_ok (G := G) hG hp hq sa sb hs
    have n0 := Num_nil (G := G) hG
    have r1 := FRat_same (G := G) hG z1 (by omega)
    have r2 := FRat_same (G := G) hG z2 (by omega)
    have r3 := FRat_same (G := G) hG z3 (by omega)
    exact Spec.of_run hG Tryz.func5 (ro := [3, 4, 5]) (m := 60)
      [.call aw, .call sh, .call sp, .call ab, .call bi, .call rpl, .call rt, .call rab, .call eq, .call rv, .call rw', .call rpl, .call rbi, .call n0, .inl [] Tryz.func34, .call r1, .call r2, .call r3] (by kernel_rfl)
theorem RPo.valid_turn {p : RPo} (h : p.u.valid = false) : p.valid = false := by unfold RPo.valid; rw [h]; rfl
theorem Lines_spec (hG : Steady G) {p q : RPo} {r : RPl} (hp : p.digs) (hq : q.digs) (hr : r.digs) : Spec Tryz.prog G 5 [p.dat, q.dat, r.dat] (bool true) := by
  have aw := awake45_spec (G := G) hG
  by_cases h1 : p.short ∧ q.short
  case neg => exact Spec.of_run hG Tryz.func5 (ro := [3, 4, 5]) (m := 60) [.call aw, .call ((Short2 hG p q).2 h1), .call aw] (by kernel_rfl)
  have sh := (Short2 (G := G) hG p q).1 h1
  by_cases h2 : r.short
  case neg => exact Spec.of_run hG Tryz.func5 (ro := [3, 4, 5]) (m := 60) [.call aw, .call sh, .call ((ShortPl1 hG r).2 h2), .call aw] (by kernel_rfl)
  have sp := (ShortPl1 (G := G) hG r).1 h2
  have kb := KB_eq
  have kp := RPo.short_ok hp h1.1
  have kq := RPo.short_ok hq h1.2
  have kr := RPl.short_ok hr h2
  have rv := PRValid_spec (G := G) hG kp (by omega)
  have rw' := PRValid_spec (G := G) hG kq (by omega)
  have rpl := PRPlace_spec (G := G) hG kr (by omega)
  have rt := PRTurn_spec (G := G) hG kp.1 (by omega)
  have i2 := Is_err (G := G) hG 2 2
  have e0 := equal45 (G := G) hG none_ok2 (by omega)
  have r0 := FRat_same (G := G) hG z00 (by omega)
  cases hm : r.valid with
  | false =>
    rw [hm] at rpl
    have ab := About_bad1 (G := G) (r := p.u) hG kr (by omega) hm
    cases hv : p.valid with
    | false =>
      rw [hv] at rv
      have bi := Bis_bad1 (G := G) (r := r) hG kp kq (by omega) (by rw [hv]; rfl)
      exact Spec.of_run hG Tryz.func5 (ro := [3, 4, 5]) (m := 60)
        [.call aw, .call sh, .call sp, .call ab, .call bi, .call rpl, .call i2, .call e0, .call rv, .call i2, .inl [] Tryz.func34, .call r0, .call r0, .call r0] (by kernel_rfl)
    | true =>
      rw [hv] at rv
      cases hw : q.valid with
      | false =>
        rw [hw] at rw'
        have bi := Bis_bad1 (G := G) (r := r) hG kp kq (by omega) (by rw [hv, hw]; rfl)
        exact Spec.of_run hG Tryz.func5 (ro := [3, 4, 5]) (m := 60)
          [.call aw, .call sh, .call sp, .call ab, .call bi, .call rpl, .call i2, .call e0, .call rv, .call rw', .call i2, .inl [] Tryz.func34, .call r0, .call r0, .call r0] (by kernel_rfl)
      | true =>
        rw [hw] at rw'
        have bi := Bis_bad2 (G := G) (r := r) hG kp kq kr (by omega) (by rw [hv, hw]; rfl) hm
        exact Spec.of_run hG Tryz.func5 (ro := [3, 4, 5]) (m := 60)
          [.call aw, .call sh, .call sp, .call ab, .call bi, .call rpl, .call i2, .call e0, .call rv, .call rw', .call rpl, .call i2, .inl [] Tryz.func34, .call r0, .call r0, .call r0] (by kernel_rfl)
  | true =>
    rw [hm] at rpl
    obtain ⟨x, y, sx, sy, rfl⟩ := RPl.valid_elim kr hm
    cases ht : p.u.valid with
    | false =>
      rw [ht] at rt
      have hv := RPo.valid_turn ht
      rw [hv] at rv
      have ab := About_bad2 (G := G) hG kr kp.1 (by omega) hm ht
      have bi := Bis_bad1 (G := G) (r := ⟨rawOf x, rawOf y⟩) hG kp kq (by omega) (by rw [hv]; rfl)
      exact Spec.of_run hG Tryz.func5 (ro := [3, 4, 5]) (m := 60)
        [.call aw, .call sh, .call sp, .call ab, .call bi, .call rpl, .call rt, .call i2, .call e0, .call rv, .call i2, .inl [] Tryz.func34, .call r0, .call r0, .call r0] (by kernel_rfl)
    | true =>
      rw [ht] at rt
      obtain ⟨ec, vt⟩ := RTn.canon ht
      have su : SzQ 2 p.u.t.q := Raw.ok.sz kp.1
      have ab := About_ok (G := G) hG su vt sx sy (by omega)
      rw [← ec] at ab
      have rab := RAbout_spec (G := G) (h := p.u.h) hG su sx sy (by omega)
      rw [← ec] at rab
      have eq := equal45 (G := G) hG (Mv.about_ok su vt sx sy) (by omega)
      cases hv : p.valid with
      | false =>
        rw [hv] at rv
        have bi := Bis_bad1 (G := G) (r := ⟨rawOf x, rawOf y⟩) hG kp kq (by omega) (by rw [hv]; rfl)
        exact Spec.of_run hG Tryz.func5 (ro := [3, 4, 5]) (m := 60)
          [.call aw, .call sh, .call sp, .call ab, .call bi, .call rpl, .call rt, .call rab, .call eq, .call rv, .call i2, .inl [] Tryz.func34, .call r0, .call r0, .call r0] (by kernel_rfl)
      | true =>
        rw [hv] at rv
        cases hw : q.valid with
        | false =>
          rw [hw] at rw'
          have bi := Bis_bad1 (G := G) (r := ⟨rawOf x, rawOf y⟩) hG kp kq (by omega) (by rw [hv, hw]; rfl)
          exact Spec.of_run hG Tryz.func5 (ro := [3, 4, 5]) (m := 60)
            [.call aw, .call sh, .call sp, .call ab, .call bi, .call rpl, .call rt, .call rab, .call eq, .call rv, .call rw', .call i2, .inl [] Tryz.func34, .call r0, .call r0, .call r0] (by kernel_rfl)
        | true =>
          obtain ⟨m, om, rfl⟩ := RPo.valid_elim kp hv
          obtain ⟨w, ow, rfl⟩ := RPo.valid_elim kq hw
          exact Lines_valid hG om ow sx sy h1 h2
end Lw
