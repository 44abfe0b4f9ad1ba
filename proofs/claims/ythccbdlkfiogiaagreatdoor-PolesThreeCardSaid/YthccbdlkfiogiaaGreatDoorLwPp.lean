/- The statements about rotations about a centre and about centres on the bisector, run. No condition. -/
import Derived.Test.YthccbdlkfiogiaaGreatDoorLwPo
namespace Lw
open Go Go.RowKit Go.Proofs

variable {G : World → Prop}

def places2 (r1 r2 : RPl) : D := .agg (r1.cells ++ r2.cells)
theorem PRPlaceF (hG : Steady G) {k : Nat} {x y : Rat} (sx : SzQ k x) (sy : SzQ k y) (hk : k ≤ KB) : Spec Tryz.prog G 23 [FPl x y] (bool true) := by
  have := PRPlace_spec (G := G) hG (r := ⟨rawOf x, rawOf y⟩) ⟨sx.ok, sy.ok⟩ hk
  rw [FPl_valid] at this
  exact this
theorem cmp_self (a : Rat) : (cmpQ a a == 0) = true := cmp_eq rfl

/-! ### PolesAbout -/
theorem About_law (hG : Steady G) {t : RTn} {a b : RPl} (ht : t.digs) (ha : a.digs) (hb : b.digs) : Spec Tryz.prog G 6 [t.dat, places2 a b] (bool true) := by
  have aw := awake45_spec (G := G) hG
  by_cases h2 : a.short ∧ b.short
  case neg => exact Spec.of_run hG Tryz.func6 (ro := [2, 3]) (m := 60) [.call aw, .call ((ShortPl2 hG a b).2 h2), .call aw] (by kernel_rfl)
  have sp := (ShortPl2 (G := G) hG a b).1 h2
  by_cases g1 : t.t.n.length ≤ 2
  case neg => exact Spec.of_run hG Tryz.func6 (ro := [2, 3]) (m := 60) [.call aw, .call sp, .eq 23 (Lw.eqB (gt2_true g1)), .call aw] (by kernel_rfl)
  by_cases g2 : t.t.d.length ≤ 2
  case neg => exact Spec.of_run hG Tryz.func6 (ro := [2, 3]) (m := 60) [.call aw, .call sp, .eq 23 (Lw.eqB (gt2_false g1)), .eq 30 (Lw.eqB (gt2_true g2)), .call aw] (by kernel_rfl)
  have kb := KB_eq
  have kt : t.ok 2 := ⟨ht.1, ht.2, g1, g2, by omega⟩
  have ka := RPl.short_ok ha h2.1
  have kb' := RPl.short_ok hb h2.2
  have rt := PRTurn_spec (G := G) hG kt (by omega)
  have p1 := PRPlace_spec (G := G) hG ka (by omega)
  have p2 := PRPlace_spec (G := G) hG kb' (by omega)
  cases e0 : t.valid with
  | false =>
    rw [e0] at rt
    exact Spec.of_run hG Tryz.func6 (ro := [2, 3]) (m := 60) [.call aw, .call sp, .eq 23 (Lw.eqB (gt2_false g1)), .eq 30 (Lw.eqB (gt2_false g2)), .call rt, .call aw] (by kernel_rfl)
  | true =>
    rw [e0] at rt
    cases e1 : a.valid with
    | false =>
      rw [e1] at p1
      exact Spec.of_run hG Tryz.func6 (ro := [2, 3]) (m := 60) [.call aw, .call sp, .eq 23 (Lw.eqB (gt2_false g1)), .eq 30 (Lw.eqB (gt2_false g2)), .call rt, .call p1, .call aw] (by kernel_rfl)
    | true =>
      rw [e1] at p1
      cases e2 : b.valid with
      | false =>
        rw [e2] at p2
        exact Spec.of_run hG Tryz.func6 (ro := [2, 3]) (m := 60) [.call aw, .call sp, .eq 23 (Lw.eqB (gt2_false g1)), .eq 30 (Lw.eqB (gt2_false g2)), .call rt, .call p1, .call p2, .call aw] (by kernel_rfl)
      | true =>
        rw [e2] at p2
        obtain ⟨ec, vt⟩ := RTn.canon e0
        have su : SzQ 2 t.t.q := Raw.ok.sz kt
        obtain ⟨x1, y1, sx1, sy1, rfl⟩ := RPl.valid_elim ka e1
        obtain ⟨x2, y2, sx2, sy2, rfl⟩ := RPl.valid_elim kb' e2
        have ab := About_ok (G := G) hG su vt sx1 sy1 (by omega)
        rw [← ec] at ab
        have oa := Mv.about_ok su vt sx1 sy1
        have a1 := PApplyM (G := G) hG oa sx1 sy1 (by omega)
        have a2 := PApplyM (G := G) hG oa sx2 sy2 (by omega)
        obtain ⟨f1, f2⟩ := Mv.about_im t.t.q t.h x1 y1
        rw [f1, f2] at a1
        obtain ⟨u1, u2⟩ := Mv.im_sz oa sx2 sy2
        have sm := same45 (G := G) hG sx1 sy1 (by omega)
        have d1 := dist45 (G := G) hG (sx1.mono (l := 9 * (8 * 2 + 3 * 2 + 10) + 2 * 2 + 10) (by omega)) (sy1.mono (by omega)) u1 u2 (by omega)
        rw [about_dist] at d1
        have d2 := dist45 (G := G) hG sx1 sy1 sx2 sy2 (by omega)
        have sd := sx1.dst2 sy1 sx2 sy2
        have c1 := FCmp_spec (G := G) hG sd.isQ sd.isQ (by omega) (by omega)
        have c2 := FCmp_spec (G := G) hG su.isQ (Raw.ok.isQ kt) (by omega) (by omega)
        have ve := RFValid_spec (G := G) hG oa.2.1.ok (by omega)
        rw [rawOf_valid] at ve
        exact Spec.of_run hG Tryz.func6 (ro := [2, 3]) (m := 60)
          [.call aw, .call sp, .eq 23 (Lw.eqB (gt2_false g1)), .eq 30 (Lw.eqB (gt2_false g2)), .call rt, .call p1, .call p2, .call ab, .call a1, .call a2, .call sm, .call d1, .call d2, .call c1, .eq 98 (Lw.eqB (cmp_self (dst2 x1 y1 x2 y2))), .eq 106 (Lw.eqB (beq_self_eq_true t.h)), .call c2, .eq 115 (Lw.eqB (cmp_self t.t.q)), .call ve] (by kernel_rfl)

/-! ### PolesCentres -/
theorem Centres_valid (hG : Steady G) {p q : Mv} {x y u v : Rat} (hp : p.ok 2) (hq : q.ok 2) (sx : SzQ 2 x) (sy : SzQ 2 y) (su : SzQ 2 u) (sv : SzQ 2 v) (h1 : p.raw.short ∧ q.raw.short)
    (h2 : (RPl.mk (rawOf x) (rawOf y)).short ∧ (RPl.mk (rawOf u) (rawOf v)).short) :
    Spec Tryz.prog G 4 [p.raw.dat, q.raw.dat, places2 ⟨rawOf x, rawOf y⟩ ⟨rawOf u, rawOf v⟩] (bool true) := by
  have kb := KB_eq
  have aw := awake45_spec (G := G) hG
  have sh := (Short2 (G := G) hG p.raw q.raw).1 h1
  have sp := (ShortPl2 (G := G) hG ⟨rawOf x, rawOf y⟩ ⟨rawOf u, rawOf v⟩).1 h2
  have v1 := PValidM (G := G) hG hp (by omega)
  have v2 := PValidM (G := G) hG hq (by omega)
  have p1 := PRPlaceF (G := G) hG sx sy (by omega)
  have p2 := PRPlaceF (G := G) hG su sv (by omega)
  have a1 := PApplyM (G := G) hG hp sx sy (by omega)
  have a2 := PApplyM (G := G) hG hq sx sy (by omega)
  obtain ⟨x1, y1⟩ := im32 hp sx sy
  obtain ⟨x2, y2⟩ := im32 hq sx sy
  have fp : p.fit := hp.2.2.2
  have fq : q.fit := hq.2.2.2
  by_cases hs : bisA p q x y = 0 ∧ bisB p q x y = 0
  · have bi := Bis_same (G := G) hG hp hq sx sy hs
    have i8 := Is_err (G := G) hG 8 8
    have sm := same45 (G := G) hG x1 y1 (by omega)
    rw [← sub0.1 hs.1, ← sub0.1 hs.2] at a2
    exact Spec.of_run hG Tryz.func4 (ro := [3, 4, 5]) (m := 60)
      [.call aw, .call sh, .call sp, .call v1, .call v2, .call p1, .call p2, .call a1, .call a2, .call bi, .call i8, .call sm] (by kernel_rfl)
  · have bi := Bis_ok (G := G) hG hp hq sx sy hs
    obtain ⟨z1, z2, z3⟩ := bis_sz hp hq sx sy
    have m1 := FMul_spec (G := G) hG z1.isQ su.isQ (by omega) (by omega)
    have m2 := FMul_spec (G := G) hG z2.isQ sv.isQ (by omega) (by omega)
    have ad := FAdd_spec (G := G) hG (z1.mul su).isQ (z2.mul sv).isQ (by omega) (by omega)
    have c1 := FCmp_spec (G := G) hG ((z1.mul su).add (z2.mul sv)).isQ z3.isQ (by omega) (by omega)
    have d1 := dist45 (G := G) hG x1 y1 (su.mono (l := 32) (by omega)) (sv.mono (by omega)) (by omega)
    have d2 := dist45 (G := G) hG x2 y2 (su.mono (l := 32) (by omega)) (sv.mono (by omega)) (by omega)
    have sd1 := x1.dst2 y1 (su.mono (l := 32) (by omega)) (sv.mono (by omega))
    have sd2 := x2.dst2 y2 (su.mono (l := 32) (by omega)) (sv.mono (by omega))
    have c2 := FCmp_spec (G := G) hG sd1.isQ sd2.isQ (by omega) (by omega)
    have iff := bis_iff (p.imX x y) (p.imY x y) (q.imX x y) (q.imY x y) u v
    have ob := Mv.bet_ok hp hq
    by_cases ht : (p.bet q).still
    · have po := Pole_still (G := G) hG hp hq ht
      by_cases hon : bisA p q x y * u + bisB p q x y * v = bisC p q x y
      · have he := iff.1 hon
        exact Spec.of_run hG Tryz.func4 (ro := [3, 4, 5]) (m := 60)
          [.call aw, .call sh, .call sp, .call v1, .call v2, .call p1, .call p2, .call a1, .call a2, .call bi, .call po, .call m1, .call m2, .call ad, .call c1, .eq 128 (Lw.eqB (cmp_eq hon)), .call d1, .call d2, .call c2, .eq 137 (Lw.eqB (cmp_eq he))] (by kernel_rfl)
      · have he : ¬ dst2 (p.imX x y) (p.imY x y) u v = dst2 (q.imX x y) (q.imY x y) u v := fun e => hon (iff.2 e)
        exact Spec.of_run hG Tryz.func4 (ro := [3, 4, 5]) (m := 60)
          [.call aw, .call sh, .call sp, .call v1, .call v2, .call p1, .call p2, .call a1, .call a2, .call bi, .call po, .call m1, .call m2, .call ad, .call c1, .eq 128 (Lw.eqB (cmp_ne hon)), .call d1, .call d2, .call c2, .eq 137 (Lw.eqB (cmp_ne he))] (by kernel_rfl)
    · have po := Pole_ok (G := G) hG hp hq ht
      obtain ⟨f1, f2⟩ := Mv.fix_sz ob
      have m3 := FMul_spec (G := G) hG z1.isQ f1.isQ (by omega) (by omega)
      have m4 := FMul_spec (G := G) hG z2.isQ f2.isQ (by omega) (by omega)
      have ad2 := FAdd_spec (G := G) hG (z1.mul f1).isQ (z2.mul f2).isQ (by omega) (by omega)
      have c3 := FCmp_spec (G := G) hG ((z1.mul f1).add (z2.mul f2)).isQ z3.isQ (by omega) (by omega)
      have d3 := dist45 (G := G) hG (x1.mono (l := 16 * 86 + 40) (by omega)) (y1.mono (by omega)) f1 f2 (by omega)
      have d4 := dist45 (G := G) hG (x2.mono (l := 16 * 86 + 40) (by omega)) (y2.mono (by omega)) f1 f2 (by omega)
      have sd3 := (x1.mono (l := 16 * 86 + 40) (by omega)).dst2 (y1.mono (by omega)) f1 f2
      have sd4 := (x2.mono (l := 16 * 86 + 40) (by omega)).dst2 (y2.mono (by omega)) f1 f2
      have c4 := FCmp_spec (G := G) hG sd3.isQ sd4.isQ (by omega) (by omega)
      have he2 := bet_dist fp fq ht x y
      have hon2 : bisA p q x y * (p.bet q).fixX + bisB p q x y * (p.bet q).fixY = bisC p q x y := (bis_iff (p.imX x y) (p.imY x y) (q.imX x y) (q.imY x y) _ _).2 he2
      by_cases hon : bisA p q x y * u + bisB p q x y * v = bisC p q x y
      · have he := iff.1 hon
        exact Spec.of_run hG Tryz.func4 (ro := [3, 4, 5]) (m := 60)
          [.call aw, .call sh, .call sp, .call v1, .call v2, .call p1, .call p2, .call a1, .call a2, .call bi, .call po, .call m1, .call m2, .call ad, .call c1, .eq 128 (Lw.eqB (cmp_eq hon)), .call d1, .call d2, .call c2, .eq 137 (Lw.eqB (cmp_eq he)),
           .call m3, .call m4, .call ad2, .call c3, .eq 128 (Lw.eqB (cmp_eq hon2)), .call d3, .call d4, .call c4, .eq 137 (Lw.eqB (cmp_eq he2))] (by kernel_rfl)
      · have he : ¬ dst2 (p.imX x y) (p.imY x y) u v = dst2 (q.imX x y) (q.imY x y) u v := fun e => hon (iff.2 e)
        exact Spec.of_run hG Tryz.func4 (ro := [3, 4, 5]) (m := 60)
          [.call aw, .call sh, .call sp, .call v1, .call v2, .call p1, .call p2, .call a1, .call a2, .call bi, .call po, .call m1, .call m2, .call ad, .call c1, .eq 128 (Lw.eqB (cmp_ne hon)), .call d1, .call d2, .call c2, .eq 137 (Lw.eqB (cmp_ne he)),
           .call m3, .call m4, .call ad2, .call c3, .eq 128 (Lw.eqB (cmp_eq hon2)), .call d3, .call d4, .call c4, .eq 137 (Lw.eqB (cmp_eq he2))] (by kernel_rfl)
theorem Centres_spec (hG : Steady G) {p q : RPo} {a b : RPl} (hp : p.digs) (hq : q.digs) (ha : a.digs) (hb : b.digs) : Spec Tryz.prog G 4 [p.dat, q.dat, places2 a b] (bool true) := by
  have aw := awake45_spec (G := G) hG
  by_cases h1 : p.short ∧ q.short
  case neg => exact Spec.of_run hG Tryz.func4 (ro := [3, 4, 5]) (m := 60) [.call aw, .call ((Short2 hG p q).2 h1), .call aw] (by kernel_rfl)
  have sh := (Short2 (G := G) hG p q).1 h1
  by_cases h2 : a.short ∧ b.short
  case neg => exact Spec.of_run hG Tryz.func4 (ro := [3, 4, 5]) (m := 60) [.call aw, .call sh, .call ((ShortPl2 hG a b).2 h2), .call aw] (by kernel_rfl)
  have sp := (ShortPl2 (G := G) hG a b).1 h2
  have kb := KB_eq
  have kp := RPo.short_ok hp h1.1
  have kq := RPo.short_ok hq h1.2
  have ka := RPl.short_ok ha h2.1
  have kb' := RPl.short_ok hb h2.2
  have v1 := PValid_spec (G := G) hG kp (by omega)
  have v2 := PValid_spec (G := G) hG kq (by omega)
  have p1 := PRPlace_spec (G := G) hG ka (by omega)
  have p2 := PRPlace_spec (G := G) hG kb' (by omega)
  cases hv : p.valid with
  | false =>
    rw [hv] at v1
    exact Spec.of_run hG Tryz.func4 (ro := [3, 4, 5]) (m := 60) [.call aw, .call sh, .call sp, .call v1, .call aw] (by kernel_rfl)
  | true =>
    rw [hv] at v1
    cases hw : q.valid with
    | false =>
      rw [hw] at v2
      exact Spec.of_run hG Tryz.func4 (ro := [3, 4, 5]) (m := 60) [.call aw, .call sh, .call sp, .call v1, .call v2, .call aw] (by kernel_rfl)
    | true =>
      rw [hw] at v2
      cases e1 : a.valid with
      | false =>
        rw [e1] at p1
        exact Spec.of_run hG Tryz.func4 (ro := [3, 4, 5]) (m := 60) [.call aw, .call sh, .call sp, .call v1, .call v2, .call p1, .call aw] (by kernel_rfl)
      | true =>
        rw [e1] at p1
        cases e2 : b.valid with
        | false =>
          rw [e2] at p2
          exact Spec.of_run hG Tryz.func4 (ro := [3, 4, 5]) (m := 60) [.call aw, .call sh, .call sp, .call v1, .call v2, .call p1, .call p2, .call aw] (by kernel_rfl)
        | true =>
          obtain ⟨m, om, rfl⟩ := RPo.valid_elim kp hv
          obtain ⟨w, ow, rfl⟩ := RPo.valid_elim kq hw
          obtain ⟨x1, y1, sx1, sy1, rfl⟩ := RPl.valid_elim ka e1
          obtain ⟨x2, y2, sx2, sy2, rfl⟩ := RPl.valid_elim kb' e2
          exact Centres_valid hG om ow sx1 sy1 sx2 sy2 h1 h2
end Lw
