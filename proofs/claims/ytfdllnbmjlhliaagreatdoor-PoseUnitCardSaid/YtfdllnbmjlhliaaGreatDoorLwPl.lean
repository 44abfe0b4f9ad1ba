/- The statements about groups of displacements and rigid motion, run. No condition. -/
import Derived.Test.YtfdllnbmjlhliaaGreatDoorLwPk
namespace Lw
open Go Go.RowKit Go.Proofs

variable {G : World → Prop}

/-! ### Plain laws -/
theorem cosT_neg (t : Rat) (h : Bool) : cosT (-t) h = cosT t h := by
  unfold cosT
  rw [show -t * -t = t * t by grind]
theorem sinT_neg (t : Rat) (h : Bool) : sinT (-t) h = - sinT t h := by
  unfold sinT
  cases h with
  | true => simp
  | false =>
    rw [show -t * -t = t * t by grind, Rat.div_def, Rat.div_def]
    simp only [Bool.false_eq_true, if_false]
    grind
theorem Mv.ext {a b : Mv} (h1 : a.t = b.t) (h2 : a.h = b.h) (h3 : a.x = b.x) (h4 : a.y = b.y) : a = b := by
  obtain ⟨t, h, x, y⟩ := a
  obtain ⟨t', h', x', y'⟩ := b
  cases h1; cases h2; cases h3; cases h4
  rfl
theorem Mv.next_cs {a b : Mv} (ha : a.fit) (hb : b.fit) : cosT (a.next b).t (a.next b).h = cosT a.t a.h * cosT b.t b.h - sinT a.t a.h * sinT b.t b.h ∧ sinT (a.next b).t (a.next b).h = sinT a.t a.h * cosT b.t b.h + cosT a.t a.h * sinT b.t b.h := turn_add ha hb
theorem Mv.next_xy (a b : Mv) : (a.next b).x = b.imX a.x a.y ∧ (a.next b).y = b.imY a.x a.y := ⟨rfl, rfl⟩
theorem Mv.assoc {a b c : Mv} (ha : a.fit) (hb : b.fit) (hc : c.fit) : (a.next b).next c = a.next (b.next c) := by
  obtain ⟨p1, p2⟩ := Mv.next_cs ha hb
  obtain ⟨p3, p4⟩ := Mv.next_cs (Mv.next_fit a b) hc
  obtain ⟨p5, p6⟩ := Mv.next_cs hb hc
  obtain ⟨p7, p8⟩ := Mv.next_cs ha (Mv.next_fit b c)
  obtain ⟨e1, e2⟩ := turn_ext (Mv.next_fit (a.next b) c) (Mv.next_fit a (b.next c)) (by rw [p3, p7, p1, p2, p5, p6]; grind) (by rw [p4, p8, p1, p2, p5, p6]; grind)
  obtain ⟨i1, i2⟩ := Mv.next_im hb hc a.x a.y
  exact Mv.ext e1 e2 i1.symm i2.symm
theorem Mv.inv_fit {a : Mv} (ha : a.fit) : a.inv.fit := neg_valid ha
theorem Mv.next_inv {a : Mv} (ha : a.fit) : a.next a.inv = Mv.none := by
  obtain ⟨p1, p2⟩ := Mv.next_cs ha (Mv.inv_fit ha)
  have hu := unit_T a.t a.h
  have c1 : cosT a.inv.t a.inv.h = cosT a.t a.h := cosT_neg a.t a.h
  have s1 : sinT a.inv.t a.inv.h = - sinT a.t a.h := sinT_neg a.t a.h
  rw [c1, s1] at p1 p2
  have n1 : Mv.none.fit := fun e => by cases e
  have z1 : cosT Mv.none.t Mv.none.h = 1 := cosT_zero
  have z2 : sinT Mv.none.t Mv.none.h = 0 := sinT_zero
  obtain ⟨e1, e2⟩ := turn_ext (Mv.next_fit a a.inv) n1 (by rw [p1, z1]; grind) (by rw [p2, z2]; grind)
  refine Mv.ext e1 e2 ?_ ?_
  · show rotX (-a.t) a.h a.x a.y + rotX (-a.t) a.h (-a.x) (-a.y) = 0
    unfold rotX
    grind
  · show rotY (-a.t) a.h a.x a.y + rotY (-a.t) a.h (-a.x) (-a.y) = 0
    unfold rotY
    grind
theorem Mv.none_next {b : Mv} (hb : b.fit) : Mv.none.next b = b := by
  have n1 : Mv.none.fit := fun e => by cases e
  obtain ⟨p1, p2⟩ := Mv.next_cs n1 hb
  have z1 : cosT Mv.none.t Mv.none.h = 1 := cosT_zero
  have z2 : sinT Mv.none.t Mv.none.h = 0 := sinT_zero
  rw [z1, z2] at p1 p2
  obtain ⟨e1, e2⟩ := turn_ext (Mv.next_fit Mv.none b) hb (by rw [p1]; grind) (by rw [p2]; grind)
  refine Mv.ext e1 e2 ?_ ?_
  · show rotX b.t b.h 0 0 + b.x = b.x
    unfold rotX
    grind
  · show rotY b.t b.h 0 0 + b.y = b.y
    unfold rotY
    grind
theorem Mv.next_bet {a b : Mv} (ha : a.fit) (hb : b.fit) : a.next (a.bet b) = b := by
  unfold Mv.bet
  rw [← Mv.assoc ha (Mv.inv_fit ha) hb, Mv.next_inv ha, Mv.none_next hb]
theorem Mv.eqB_self (a : Mv) : a.eqB a = true := by
  unfold Mv.eqB
  rw [beq_self_eq_true, decide_eq_true rfl, decide_eq_true rfl, decide_eq_true rfl]
  rfl
theorem PSameSelf (hG : Steady G) {k : Nat} {m : Mv} (hm : m.ok k) (hk : k ≤ KB) : Spec Tryz.prog G 40 [m.dat, m.dat] (.tup [bool true, .lit .nilIface]) := by
  have h := PSame_spec (G := G) hG hm hm hk hk
  rw [Mv.eqB_self] at h
  exact h

/-! ### PoseGroup -/
theorem Mv.raw_ok {k : Nat} {m : Mv} (h : m.ok k) : m.raw.ok k := ⟨h.1.ok, h.2.1.ok, h.2.2.1.ok⟩
theorem Mv.raw_valid {k : Nat} {m : Mv} (h : m.ok k) : m.raw.valid = true := FPo_valid h.2.2.2
theorem PApplyM (hG : Steady G) {k l : Nat} {m : Mv} {a b : Rat} (h : m.ok k) (sa : SzQ l a) (sb : SzQ l b) (hk : 9 * k + 2 * l + 10 ≤ KB) : Spec Tryz.prog G 14 [m.dat, FPl a b] (.tup [FPl (m.imX a b) (m.imY a b), .lit .nilIface]) :=
  PApply_ok hG h.1 h.2.1 h.2.2.1 h.2.2.2 sa sb hk
theorem Mv.im_sz {k l : Nat} {m : Mv} {a b : Rat} (h : m.ok k) (sa : SzQ l a) (sb : SzQ l b) : SzQ (9 * k + 2 * l + 10) (m.imX a b) ∧ SzQ (9 * k + 2 * l + 10) (m.imY a b) := h.1.img h.2.1 h.2.2.1 sa sb m.h
def poses3 (r1 r2 r3 : RPo) : D := .agg (r1.cells ++ (r2.cells ++ r3.cells))
def places3 (r1 r2 r3 : RPl) : D := .agg (r1.cells ++ (r2.cells ++ r3.cells))
theorem Group_valid (hG : Steady G) {a b c : Mv} {q : RPl} (ha : a.ok 2) (hb : b.ok 2) (hc : c.ok 2) (hq : q.ok 2) (h1 : a.raw.short ∧ b.raw.short ∧ c.raw.short) (h2 : q.short) : Spec Tryz.prog G 9 [poses3 a.raw b.raw c.raw, q.dat] (bool true) := by
  have kb := KB_eq
  have aw := awake17_spec (G := G) hG
  have sh := (Short3 (G := G) hG a.raw b.raw c.raw).1 h1
  have sp := (ShortPl1 (G := G) hG q).1 h2
  have va := PValidM (G := G) hG ha (by omega)
  have vb := PValidM (G := G) hG hb (by omega)
  have vc := PValidM (G := G) hG hc (by omega)
  have fa : a.fit := ha.2.2.2
  have fb : b.fit := hb.2.2.2
  have fc : c.fit := hc.2.2.2
  have oab := Mv.next_ok ha hb
  have obc := Mv.next_ok hb hc
  have t1 := PThenM (G := G) hG ha hb (by omega)
  have t2 := PThenM (G := G) hG hb hc (by omega)
  have t3 := PThenM (G := G) hG oab hc (by omega)
  have t4 := PThenM (G := G) hG ha obc (by omega)
  rw [← Mv.assoc fa fb fc] at t4
  have iv := PInvM (G := G) hG ha (by omega)
  have oi := Mv.inv_ok ha
  have t5 := PThenM (G := G) hG ha oi (by omega)
  rw [Mv.next_inv fa] at t5
  have bt := PBetM (G := G) hG ha hb (by omega)
  have obt : (a.bet b).ok (9 * 2 + 2 * (10 * 2 + 9) + 10) := Mv.next_ok oi hb
  have t6 := PThenM (G := G) hG ha obt (by omega)
  rw [Mv.next_bet fa fb] at t6
  have s1 := PSameSelf (G := G) hG (Mv.next_ok oab hc) (by omega)
  have s2 := PSameSelf (G := G) hG (Mv.none_ok (k := 1) (by omega)) (by omega)
  have s3 := PSameSelf (G := G) hG hb (by omega)
  have i2 := Is_err (G := G) hG 2 2
  cases hw : q.valid with
  | false =>
    have p1 := PApply_bad2 (G := G) hG (Mv.raw_ok oab) hq (by omega) (by omega) (Mv.raw_valid oab) hw
    have p2 := PApply_bad2 (G := G) hG (Mv.raw_ok ha) hq (by omega) (by omega) (Mv.raw_valid ha) hw
    exact Spec.of_run hG Tryz.func9 (ro := [2, 3]) (m := 60)
      [.call aw, .call sh, .call sp, .call va, .call vb, .call vc, .call t1, .call t2, .call t3, .call t4, .call iv, .call t5, .call bt, .call t6, .call s1, .call s2, .call s3, .call p1, .call p2, .call i2, .call i2] (by kernel_rfl)
  | true =>
    obtain ⟨x, y, sx, sy, rfl⟩ := RPl.valid_elim hq hw
    have p1 := PApplyM (G := G) hG oab sx sy (by omega)
    have p2 := PApplyM (G := G) hG ha sx sy (by omega)
    obtain ⟨z1, z2⟩ := Mv.im_sz ha sx sy
    have p3 := PApplyM (G := G) hG hb z1 z2 (by omega)
    obtain ⟨e1, e2⟩ := Mv.next_im fa fb x y
    rw [← e1, ← e2] at p3
    obtain ⟨w1, w2⟩ := Mv.im_sz oab sx sy
    have ps := place_same (G := G) hG w1 w2 (by omega)
    exact Spec.of_run hG Tryz.func9 (ro := [2, 3]) (m := 60)
      [.call aw, .call sh, .call sp, .call va, .call vb, .call vc, .call t1, .call t2, .call t3, .call t4, .call iv, .call t5, .call bt, .call t6, .call s1, .call s2, .call s3, .call p1, .call p2, .call p3, .call ps] (by kernel_rfl)
theorem Group_spec (hG : Steady G) {a b c : RPo} {q : RPl} (ha : a.digs) (hb : b.digs) (hc : c.digs) (hq : q.digs) : Spec Tryz.prog G 9 [poses3 a b c, q.dat] (bool true) := by
  have aw := awake17_spec (G := G) hG
  by_cases h1 : a.short ∧ b.short ∧ c.short
  case neg => exact Spec.of_run hG Tryz.func9 (ro := [2, 3]) (m := 60) [.call aw, .call ((Short3 hG a b c).2 h1), .call aw] (by kernel_rfl)
  have sh := (Short3 (G := G) hG a b c).1 h1
  by_cases h2 : q.short
  case neg => exact Spec.of_run hG Tryz.func9 (ro := [2, 3]) (m := 60) [.call aw, .call sh, .call ((ShortPl1 hG q).2 h2), .call aw] (by kernel_rfl)
  have sp := (ShortPl1 (G := G) hG q).1 h2
  have kb := KB_eq
  have ka := RPo.short_ok ha h1.1
  have kb' := RPo.short_ok hb h1.2.1
  have kc := RPo.short_ok hc h1.2.2
  have kq := RPl.short_ok hq h2
  have va := PValid_spec (G := G) hG ka (by omega)
  have vb := PValid_spec (G := G) hG kb' (by omega)
  have vc := PValid_spec (G := G) hG kc (by omega)
  cases ea : a.valid with
  | false =>
    rw [ea] at va
    exact Spec.of_run hG Tryz.func9 (ro := [2, 3]) (m := 60) [.call aw, .call sh, .call sp, .call va] (by kernel_rfl)
  | true =>
    rw [ea] at va
    cases eb : b.valid with
    | false =>
      rw [eb] at vb
      exact Spec.of_run hG Tryz.func9 (ro := [2, 3]) (m := 60) [.call aw, .call sh, .call sp, .call va, .call vb] (by kernel_rfl)
    | true =>
      rw [eb] at vb
      cases ec : c.valid with
      | false =>
        rw [ec] at vc
        exact Spec.of_run hG Tryz.func9 (ro := [2, 3]) (m := 60) [.call aw, .call sh, .call sp, .call va, .call vb, .call vc] (by kernel_rfl)
      | true =>
        obtain ⟨m1, o1, rfl⟩ := RPo.valid_elim ka ea
        obtain ⟨m2, o2, rfl⟩ := RPo.valid_elim kb' eb
        obtain ⟨m3, o3, rfl⟩ := RPo.valid_elim kc ec
        exact Group_valid hG o1 o2 o3 kq h1 h2

/-! ### PoseRigid -/
theorem dist_spec (hG : Steady G) {k : Nat} {a b x y : Rat} (sa : SzQ k a) (sb : SzQ k b) (sx : SzQ k x) (sy : SzQ k y) (hk : 4 * k + 4 ≤ KB) : Spec Tryz.prog G 32 [FPl a b, FPl x y] (F ((a - x) * (a - x) + (b - y) * (b - y))) := by
  have d1 := FSub_spec (G := G) hG sa.isQ sx.isQ (by omega) (by omega)
  have d2 := FSub_spec (G := G) hG sb.isQ sy.isQ (by omega) (by omega)
  have m1 := FMul_spec (G := G) hG (sa.sub sx).isQ (sa.sub sx).isQ (by omega) (by omega)
  have m2 := FMul_spec (G := G) hG (sb.sub sy).isQ (sb.sub sy).isQ (by omega) (by omega)
  have ad := FAdd_spec (G := G) hG ((sa.sub sx).mul (sa.sub sx)).isQ ((sb.sub sy).mul (sb.sub sy)).isQ (by omega) (by omega)
  exact Spec.of_run hG Tryz.func32 (ro := [2, 3]) (m := 60) [.call d1, .call d2, .call m1, .call m2, .call ad] (by kernel_rfl)
theorem cross_spec (hG : Steady G) {k : Nat} {a b x y p q : Rat} (sa : SzQ k a) (sb : SzQ k b) (sx : SzQ k x) (sy : SzQ k y) (sp : SzQ k p) (sq : SzQ k q) (hk : 4 * k + 4 ≤ KB) :
    Spec Tryz.prog G 33 [FPl a b, FPl x y, FPl p q] (F ((x - a) * (q - b) - (y - b) * (p - a))) := by
  have d1 := FSub_spec (G := G) hG sx.isQ sa.isQ (by omega) (by omega)
  have d2 := FSub_spec (G := G) hG sq.isQ sb.isQ (by omega) (by omega)
  have m1 := FMul_spec (G := G) hG (sx.sub sa).isQ (sq.sub sb).isQ (by omega) (by omega)
  have d3 := FSub_spec (G := G) hG sy.isQ sb.isQ (by omega) (by omega)
  have d4 := FSub_spec (G := G) hG sp.isQ sa.isQ (by omega) (by omega)
  have m2 := FMul_spec (G := G) hG (sy.sub sb).isQ (sp.sub sa).isQ (by omega) (by omega)
  have sb' := FSub_spec (G := G) hG ((sx.sub sa).mul (sq.sub sb)).isQ ((sy.sub sb).mul (sp.sub sa)).isQ (by omega) (by omega)
  exact Spec.of_run hG Tryz.func33 (ro := [3, 4, 5]) (m := 60) [.call d1, .call d2, .call m1, .call d3, .call d4, .call m2, .call sb'] (by kernel_rfl)
theorem Rigid_spec (hG : Steady G) {p : RPo} {q1 q2 q3 : RPl} (hp : p.digs) (g1 : q1.digs) (g2 : q2.digs) (g3 : q3.digs) : Spec Tryz.prog G 6 [p.dat, places3 q1 q2 q3] (bool true) := by
  have aw := awake17_spec (G := G) hG
  by_cases h1 : p.short
  case neg => exact Spec.of_run hG Tryz.func6 (ro := [2, 3]) (m := 60) [.call aw, .call ((Short1 hG p).2 h1), .call aw] (by kernel_rfl)
  have sh := (Short1 (G := G) hG p).1 h1
  by_cases h2 : q1.short ∧ q2.short ∧ q3.short
  case neg => exact Spec.of_run hG Tryz.func6 (ro := [2, 3]) (m := 60) [.call aw, .call sh, .call ((ShortPl3 hG q1 q2 q3).2 h2), .call aw] (by kernel_rfl)
  have sp := (ShortPl3 (G := G) hG q1 q2 q3).1 h2
  have kb := KB_eq
  have kp := RPo.short_ok hp h1
  have k1 := RPl.short_ok g1 h2.1
  have k2 := RPl.short_ok g2 h2.2.1
  have k3 := RPl.short_ok g3 h2.2.2
  have pv := PValid_spec (G := G) hG kp (by omega)
  have i2 := Is_err (G := G) hG 2 2
  cases hv : p.valid with
  | false =>
    rw [hv] at pv
    exact Spec.of_run hG Tryz.func6 (ro := [2, 3]) (m := 60) [.call aw, .call sh, .call sp, .call pv, .call aw] (by kernel_rfl)
  | true =>
    rw [hv] at pv
    cases e1 : q1.valid with
    | false =>
      have a1 := PApply_bad2 (G := G) hG kp k1 (by omega) (by omega) hv e1
      exact Spec.of_run hG Tryz.func6 (ro := [2, 3]) (m := 60) [.call aw, .call sh, .call sp, .call pv, .call a1, .call i2] (by kernel_rfl)
    | true =>
      obtain ⟨m, hm, rfl⟩ := RPo.valid_elim kp hv
      obtain ⟨x1, y1, sx1, sy1, rfl⟩ := RPl.valid_elim k1 e1
      have a1 := PApplyM (G := G) hG hm sx1 sy1 (by omega)
      cases e2 : q2.valid with
      | false =>
        have a2 := PApply_bad2 (G := G) hG kp k2 (by omega) (by omega) hv e2
        exact Spec.of_run hG Tryz.func6 (ro := [2, 3]) (m := 60) [.call aw, .call sh, .call sp, .call pv, .call a1, .call a2, .call i2] (by kernel_rfl)
      | true =>
        obtain ⟨x2, y2, sx2, sy2, rfl⟩ := RPl.valid_elim k2 e2
        have a2 := PApplyM (G := G) hG hm sx2 sy2 (by omega)
        cases e3 : q3.valid with
        | false =>
          have a3 := PApply_bad2 (G := G) hG kp k3 (by omega) (by omega) hv e3
          exact Spec.of_run hG Tryz.func6 (ro := [2, 3]) (m := 60) [.call aw, .call sh, .call sp, .call pv, .call a1, .call a2, .call a3, .call i2] (by kernel_rfl)
        | true =>
          obtain ⟨x3, y3, sx3, sy3, rfl⟩ := RPl.valid_elim k3 e3
          have a3 := PApplyM (G := G) hG hm sx3 sy3 (by omega)
          obtain ⟨u1, v1⟩ := Mv.im_sz hm sx1 sy1
          obtain ⟨u2, v2⟩ := Mv.im_sz hm sx2 sy2
          obtain ⟨u3, v3⟩ := Mv.im_sz hm sx3 sy3
          have d1 := dist_spec (G := G) hG sx1 sy1 sx2 sy2 (by omega)
          have d2 := dist_spec (G := G) hG u1 v1 u2 v2 (by omega)
          have w1 := ((sx1.sub sx2).mul (sx1.sub sx2)).add ((sy1.sub sy2).mul (sy1.sub sy2))
          have ed := dist_keep (unit_T m.t m.h) m.x m.y x1 y1 x2 y2
          have ed' : (m.imX x1 y1 - m.imX x2 y2) * (m.imX x1 y1 - m.imX x2 y2) + (m.imY x1 y1 - m.imY x2 y2) * (m.imY x1 y1 - m.imY x2 y2) = (x1 - x2) * (x1 - x2) + (y1 - y2) * (y1 - y2) := ed
          rw [ed'] at d2
          have c1 := FCmp_spec (G := G) hG w1.isQ w1.isQ (by omega) (by omega)
          have r1 := cross_spec (G := G) hG sx1 sy1 sx2 sy2 sx3 sy3 (by omega)
          have r2 := cross_spec (G := G) hG u1 v1 u2 v2 u3 v3 (by omega)
          have er := cross_keep (unit_T m.t m.h) m.x m.y x1 y1 x2 y2 x3 y3
          have er' : (m.imX x2 y2 - m.imX x1 y1) * (m.imY x3 y3 - m.imY x1 y1) - (m.imY x2 y2 - m.imY x1 y1) * (m.imX x3 y3 - m.imX x1 y1) = (x2 - x1) * (y3 - y1) - (y2 - y1) * (x3 - x1) := er
          rw [er'] at r2
          have w2 := ((sx2.sub sx1).mul (sy3.sub sy1)).sub ((sy2.sub sy1).mul (sx3.sub sx1))
          have c2 := FCmp_spec (G := G) hG w2.isQ w2.isQ (by omega) (by omega)
          exact Spec.of_run hG Tryz.func6 (ro := [2, 3]) (m := 60)
            [.call aw, .call sh, .call sp, .call pv, .call a1, .call a2, .call a3, .call d1, .call d2, .call c1, .eq 59 (Lw.eqB (cmp_eq (a := (x1 - x2) * (x1 - x2) + (y1 - y2) * (y1 - y2)) rfl)), .call r1, .call r2, .call c2, .eq 76 (Lw.eqB (cmp_eq (a := (x2 - x1) * (y3 - y1) - (y2 - y1) * (x3 - x1)) rfl))] (by kernel_rfl)
end Lw
