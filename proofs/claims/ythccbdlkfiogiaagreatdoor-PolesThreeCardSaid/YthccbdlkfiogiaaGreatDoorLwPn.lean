/- Poles: program and reference, run. No condition. -/
import Derived.Test.YthccbdlkfiogiaaGreatDoorLwPm
namespace Lw
open Go Go.RowKit Go.Proofs

variable {G : World → Prop}

theorem PFixedM (hG : Steady G) {k : Nat} {m : Mv} (h : m.ok k) (hn : ¬ m.still) (hk : 16 * k + 40 ≤ KB) : Spec Tryz.prog G 48 [m.dat] (.tup [FPl m.fixX m.fixY, .lit .nilIface]) := PFixed_ok hG h.1 h.2.1 h.2.2.1 h.2.2.2 hn hk
theorem PFixedS (hG : Steady G) {k : Nat} {m : Mv} (h : m.ok k) (hs : m.still) (hk : k ≤ KB) : Spec Tryz.prog G 48 [m.dat] (.tup [FPl 0 0, errno 8]) := by
  obtain ⟨t, g, x, y⟩ := m
  obtain ⟨e1, e2⟩ := hs
  have e1 : g = false := e1
  have e2 : t = 0 := e2
  subst e1 e2
  exact PFixed_still hG h.2.1 h.2.2.1 hk
theorem Pole_ok (hG : Steady G) {m w : Mv} (h : m.ok 2) (g : w.ok 2) (hn : ¬ (m.bet w).still) : Spec Tryz.prog G 12 [m.dat, w.dat] (.tup [FPl (m.bet w).fixX (m.bet w).fixY, .lit .nilIface]) := by
  have kb := KB_eq
  have bt := PBetM (G := G) hG h g (by omega)
  have fx := PFixedM (G := G) hG (Mv.bet_ok h g) hn (by omega)
  exact Spec.of_run hG Tryz.func12 (ro := [2, 3]) (m := 60) [.call bt, .call fx] (by kernel_rfl)
theorem Pole_still (hG : Steady G) {m w : Mv} (h : m.ok 2) (g : w.ok 2) (hs : (m.bet w).still) : Spec Tryz.prog G 12 [m.dat, w.dat] (.tup [FPl 0 0, errno 8]) := by
  have kb := KB_eq
  have bt := PBetM (G := G) hG h g (by omega)
  have fx := PFixedS (G := G) hG (Mv.bet_ok h g) hs (by omega)
  exact Spec.of_run hG Tryz.func12 (ro := [2, 3]) (m := 60) [.call bt, .call fx] (by kernel_rfl)
theorem Angle_ok (hG : Steady G) {m w : Mv} (h : m.ok 2) (g : w.ok 2) : Spec Tryz.prog G 13 [m.dat, w.dat] (.tup [FTn (m.bet w).t (m.bet w).h, .lit .nilIface]) := by
  have kb := KB_eq
  have bt := PBetM (G := G) hG h g (by omega)
  exact Spec.of_run hG Tryz.func13 (ro := [2, 3]) (m := 60) [.call bt] (by kernel_rfl)
theorem Pole_bad1 (hG : Steady G) {k : Nat} {p q : RPo} (hp : p.ok k) (hk : k ≤ KB) (hv : p.valid = false) : Spec Tryz.prog G 12 [p.dat, q.dat] (.tup [FPl 0 0, errno 2]) :=
  Spec.of_run hG Tryz.func12 (ro := [2, 3]) (m := 60) [.call (PBet_bad1 (q := q) hG hp hk hv)] (by kernel_rfl)
theorem Pole_bad2 (hG : Steady G) {k : Nat} {p q : RPo} (hp : p.ok k) (hq : q.ok k) (hk : k ≤ KB) (hv : p.valid = true) (hw : q.valid = false) : Spec Tryz.prog G 12 [p.dat, q.dat] (.tup [FPl 0 0, errno 2]) :=
  Spec.of_run hG Tryz.func12 (ro := [2, 3]) (m := 60) [.call (PBet_bad2 hG hp hq hk hv hw)] (by kernel_rfl)
theorem Angle_bad1 (hG : Steady G) {k : Nat} {p q : RPo} (hp : p.ok k) (hk : k ≤ KB) (hv : p.valid = false) : Spec Tryz.prog G 13 [p.dat, q.dat] (.tup [FTn 0 false, errno 2]) :=
  Spec.of_run hG Tryz.func13 (ro := [2, 3]) (m := 60) [.call (PBet_bad1 (q := q) hG hp hk hv)] (by kernel_rfl)
theorem Angle_bad2 (hG : Steady G) {k : Nat} {p q : RPo} (hp : p.ok k) (hq : q.ok k) (hk : k ≤ KB) (hv : p.valid = true) (hw : q.valid = false) : Spec Tryz.prog G 13 [p.dat, q.dat] (.tup [FTn 0 false, errno 2]) :=
  Spec.of_run hG Tryz.func13 (ro := [2, 3]) (m := 60) [.call (PBet_bad2 hG hp hq hk hv hw)] (by kernel_rfl)
theorem QValid_spec (hG : Steady G) {k : Nat} {r : RPl} (hr : r.ok k) (hk : k ≤ KB) : Spec Tryz.prog G 59 [r.dat] (bool r.valid) := by
  have f1 := FValid_spec (G := G) hG hr.1 hk
  have f2 := FValid_spec (G := G) hG hr.2 hk
  unfold RPl.valid
  cases h1 : r.x.valid with
  | false =>
    rw [h1] at f1
    exact Spec.of_run hG Tryz.func59 (ro := [1]) (m := 40) [.call f1] (by kernel_rfl)
  | true =>
    rw [h1] at f1
    exact Spec.of_run hG Tryz.func59 (ro := [1]) (m := 40) [.call f1, .call f2] (by kernel_rfl)
theorem QValidF (hG : Steady G) {k : Nat} {x y : Rat} (sx : SzQ k x) (sy : SzQ k y) (hk : k ≤ KB) : Spec Tryz.prog G 59 [FPl x y] (bool true) := by
  have := QValid_spec (G := G) hG (r := ⟨rawOf x, rawOf y⟩) ⟨sx.ok, sy.ok⟩ hk
  rw [FPl_valid] at this
  exact this
theorem Qsub_spec (hG : Steady G) {k : Nat} {a b x y : Rat} (sa : SzQ k a) (sb : SzQ k b) (sx : SzQ k x) (sy : SzQ k y) (hk : k ≤ KB) : Spec Tryz.prog G 60 [FPl a b, FPl x y] (FPl (a - x) (b - y)) := by
  have a1 := FSub_spec (G := G) hG sa.isQ sx.isQ hk hk
  have a2 := FSub_spec (G := G) hG sb.isQ sy.isQ hk hk
  exact Spec.of_run hG Tryz.func60 (ro := [2, 3]) (m := 60) [.call a1, .call a2] (by kernel_rfl)
theorem Qsq_spec (hG : Steady G) {k : Nat} {a b : Rat} (sa : SzQ k a) (sb : SzQ k b) (hk : 2 * k ≤ KB) : Spec Tryz.prog G 63 [FPl a b] (F (sq2 a b)) := by
  have m1 := FMul_spec (G := G) hG sa.isQ sa.isQ (by omega) (by omega)
  have m2 := FMul_spec (G := G) hG sb.isQ sb.isQ (by omega) (by omega)
  have ad := FAdd_spec (G := G) hG (sa.mul sa).isQ (sb.mul sb).isQ (by omega) (by omega)
  exact Spec.of_run hG Tryz.func63 (ro := [1]) (m := 60) [.call m1, .call m2, .call ad] (by kernel_rfl)
theorem PRsq_spec (hG : Steady G) {k : Nat} {a b : Rat} (sa : SzQ k a) (sb : SzQ k b) (hk : 2 * k ≤ KB) : Spec Tryz.prog G 77 [FPl a b] (F (sq2 a b)) := by
  have m1 := RFMul_spec (G := G) hG sa.isQ sa.isQ (by omega) (by omega)
  have m2 := RFMul_spec (G := G) hG sb.isQ sb.isQ (by omega) (by omega)
  have ad := RFAdd_spec (G := G) hG (sa.mul sa).isQ (sb.mul sb).isQ (by omega) (by omega)
  exact Spec.of_run hG Tryz.func77 (ro := [1]) (m := 60) [.call m1, .call m2, .call ad] (by kernel_rfl)
theorem SzQ.sq2 {k : Nat} {a b : Rat} (sa : SzQ k a) (sb : SzQ k b) : SzQ (4 * k + 1) (Lw.sq2 a b) := ((sa.mul sa).add (sb.mul sb)).mono (by omega)

/-! ### About -/
theorem Mv.spin_ok {k : Nat} {t : Rat} {h : Bool} (s : SzQ k t) (v : h = true → t = 0) : (Mv.mk t h 0 0).ok k := ⟨s, sz_zero s.2.2, sz_zero s.2.2, v⟩
theorem Mv.about_ok {k l : Nat} {t x y : Rat} {h : Bool} (s : SzQ k t) (v : h = true → t = 0) (sx : SzQ l x) (sy : SzQ l y) : (Mv.about t h x y).ok (8 * k + 3 * l + 10) := by
  obtain ⟨r1, r2⟩ := s.rot sx sy h
  exact ⟨s.mono (by omega), (sx.sub r1).mono (by omega), (sy.sub r2).mono (by omega), v⟩
theorem About_ok (hG : Steady G) {k l : Nat} {t x y : Rat} {h : Bool} (s : SzQ k t) (v : h = true → t = 0) (sx : SzQ l x) (sy : SzQ l y) (hk : 9 * k + 3 * l + 12 ≤ KB) :
    Spec Tryz.prog G 30 [FPl x y, FTn t h] (.tup [(Mv.about t h x y).dat, .lit .nilIface]) := by
  have vl := QValidF (G := G) hG sx sy (by omega)
  have ck := TCheckF (G := G) hG s v (by omega)
  have a0 := FAdd0 (G := G) hG s.isQ (by omega)
  have ap := PApplyM (G := G) hG (Mv.spin_ok s v) sx sy (by omega)
  have e1 : (Mv.mk t h 0 0).imX x y = rotX t h x y := Rat.add_zero _
  have e2 : (Mv.mk t h 0 0).imY x y = rotY t h x y := Rat.add_zero _
  rw [e1, e2] at ap
  obtain ⟨r1, r2⟩ := s.rot sx sy h
  have sb := Qsub_spec (G := G) hG (sx.mono (l := 8 * k + 2 * l + 9) (by omega)) (sy.mono (by omega)) r1 r2 (by omega)
  exact Spec.of_run hG Tryz.func30 (ro := [2]) (m := 60) [.call vl, .call ck, .call a0, .call ap, .call sb] (by kernel_rfl)
theorem About_bad1 (hG : Steady G) {k : Nat} {q : RPl} {r : RTn} (hq : q.ok k) (hk : k ≤ KB) (hv : q.valid = false) : Spec Tryz.prog G 30 [q.dat, r.dat] (.tup [FPo 0 false 0 0, errno 2]) := by
  have vl := QValid_spec (G := G) hG hq hk
  rw [hv] at vl
  exact Spec.of_run hG Tryz.func30 (ro := [2]) (m := 60) [.call vl] (by kernel_rfl)
theorem About_bad2 (hG : Steady G) {k : Nat} {q : RPl} {r : RTn} (hq : q.ok k) (hr : r.ok k) (hk : k ≤ KB) (hv : q.valid = true) (hw : r.valid = false) : Spec Tryz.prog G 30 [q.dat, r.dat] (.tup [FPo 0 false 0 0, errno 2]) := by
  have vl := QValid_spec (G := G) hG hq hk
  rw [hv] at vl
  have ck := TCheck_bad (G := G) hG hr hk hw
  exact Spec.of_run hG Tryz.func30 (ro := [2]) (m := 60) [.call vl, .call ck] (by kernel_rfl)
theorem RAbout_spec (hG : Steady G) {k l : Nat} {t x y : Rat} {h : Bool} (s : SzQ k t) (sx : SzQ l x) (sy : SzQ l y) (hk : 9 * k + 3 * l + 12 ≤ KB) :
    Spec Tryz.prog G 33 [FPl x y, FTn t h] (Mv.about t h x y).dat := by
  have ro := PRrot_spec (G := G) (h := h) hG s sx sy (by omega)
  obtain ⟨r1, r2⟩ := s.rot sx sy h
  have sb := PRless_spec (G := G) hG (sx.mono (l := 8 * k + 2 * l + 9) (by omega)) (sy.mono (by omega)) r1 r2 (by omega)
  exact Spec.of_run hG Tryz.func33 (ro := [2, 3]) (m := 60) [.call ro, .call sb] (by kernel_rfl)

/-! ### Bisector -/
theorem check2_spec (hG : Steady G) {k : Nat} {p q : RPo} (hp : p.ok k) (hq : q.ok k) (hk : k ≤ KB) : Spec Tryz.prog G 58 [.row 2 false (p.cells ++ q.cells)] (if p.valid && q.valid then .lit .nilIface else errno 2) := by
  have v1 := PValid_spec (G := G) hG hp hk
  have v2 := PValid_spec (G := G) hG hq hk
  cases hv : p.valid with
  | false =>
    rw [hv] at v1
    exact Spec.of_run hG Tryz.func58 (ro := []) (m := 60) [.call v1] (by kernel_rfl)
  | true =>
    rw [hv] at v1
    cases hw : q.valid with
    | false =>
      rw [hw] at v2
      exact Spec.of_run hG Tryz.func58 (ro := []) (m := 60) [.call v1, .call v2] (by kernel_rfl)
    | true =>
      rw [hw] at v2
      exact Spec.of_run hG Tryz.func58 (ro := []) (m := 60) [.call v1, .call v2] (by kernel_rfl)
theorem Bis_bad1 (hG : Steady G) {k : Nat} {p q : RPo} {r : RPl} (hp : p.ok k) (hq : q.ok k) (hk : k ≤ KB) (hv : (p.valid && q.valid) = false) : Spec Tryz.prog G 25 [p.dat, q.dat, r.dat] (.tup [F 0, F 0, F 0, errno 2]) := by
  have c := check2_spec (G := G) hG hp hq hk
  rw [hv] at c
  exact Spec.of_run hG Tryz.func25 (ro := [3, 4, 5]) (m := 60) [.call c] (by kernel_rfl)
theorem Bis_bad2 (hG : Steady G) {k : Nat} {p q : RPo} {r : RPl} (hp : p.ok k) (hq : q.ok k) (hr : r.ok k) (hk : k ≤ KB) (hv : (p.valid && q.valid) = true) (hw : r.valid = false) : Spec Tryz.prog G 25 [p.dat, q.dat, r.dat] (.tup [F 0, F 0, F 0, errno 2]) := by
  have c := check2_spec (G := G) hG hp hq hk
  rw [hv] at c
  have vl := QValid_spec (G := G) hG hr hk
  rw [hw] at vl
  exact Spec.of_run hG Tryz.func25 (ro := [3, 4, 5]) (m := 60) [.call c, .call vl] (by kernel_rfl)
theorem im32 {m : Mv} {a b : Rat} (h : m.ok 2) (sa : SzQ 2 a) (sb : SzQ 2 b) : SzQ 32 (m.imX a b) ∧ SzQ 32 (m.imY a b) := Mv.im_sz h sa sb
/-- The coefficients of a bisector. -/
def bisA (p q : Mv) (a b : Rat) : Rat := q.imX a b - p.imX a b
def bisB (p q : Mv) (a b : Rat) : Rat := q.imY a b - p.imY a b
def bisC (p q : Mv) (a b : Rat) : Rat := (sq2 (q.imX a b) (q.imY a b) - sq2 (p.imX a b) (p.imY a b)) / 2
theorem bis_sz {p q : Mv} {a b : Rat} (hp : p.ok 2) (hq : q.ok 2) (sa : SzQ 2 a) (sb : SzQ 2 b) : SzQ 65 (bisA p q a b) ∧ SzQ 65 (bisB p q a b) ∧ SzQ 300 (bisC p q a b) := by
  obtain ⟨x1, y1⟩ := im32 hp sa sb
  obtain ⟨x2, y2⟩ := im32 hq sa sb
  exact ⟨(x2.sub x1).mono (by omega), (y2.sub y1).mono (by omega), (((x2.sq2 y2).sub (x1.sq2 y1)).div sz_2).mono (by omega)⟩
end Lw

namespace Lw
open Go Go.RowKit Go.Proofs

variable {G : World → Prop}

theorem Bis_ok (hG : Steady G) {p q : Mv} {a b : Rat} (hp : p.ok 2) (hq : q.ok 2) (sa : SzQ 2 a) (sb : SzQ 2 b) (hn : ¬ (bisA p q a b = 0 ∧ bisB p q a b = 0)) :
    Spec Tryz.prog G 25 [p.dat, q.dat, FPl a b] (.tup [F (bisA p q a b), F (bisB p q a b), F (bisC p q a b), .lit .nilIface]) := by
  have kb := KB_eq
  have c := check2_spec (G := G) hG (Mv.raw_ok hp) (Mv.raw_ok hq) (by omega)
  rw [Mv.raw_valid hp, Mv.raw_valid hq] at c
  have vl := QValidF (G := G) hG sa sb (by omega)
  have a1 := PApplyM (G := G) hG hp sa sb (by omega)
  have a2 := PApplyM (G := G) hG hq sa sb (by omega)
  obtain ⟨x1, y1⟩ := im32 hp sa sb
  obtain ⟨x2, y2⟩ := im32 hq sa sb
  obtain ⟨z1, z2, z3⟩ := bis_sz hp hq sa sb
  have sb' := Qsub_spec (G := G) hG x2 y2 x1 y1 (by omega)
  have s1 := FSign_spec (G := G) hG z1.isQ (by omega)
  have s2 := FSign_spec (G := G) hG z2.isQ (by omega)
  have q2 := Qsq_spec (G := G) hG x2 y2 (by omega)
  have q1 := Qsq_spec (G := G) hG x1 y1 (by omega)
  have ls := FSub_spec (G := G) hG (x2.sq2 y2).isQ (x1.sq2 y1).isQ (by omega) (by omega)
  have dv := FDiv_spec (G := G) hG ((x2.sq2 y2).sub (x1.sq2 y1)).isQ sz_2.isQ (by omega) (by omega) (by decide +kernel)
  by_cases h1 : bisA p q a b = 0
  · have h2 : ¬ bisB p q a b = 0 := fun h => hn ⟨h1, h⟩
    exact Spec.of_run hG Tryz.func25 (ro := [3, 4, 5]) (m := 60) [.call c, .call vl, .call a1, .call a2, .call sb', .call s1, .eq 60 (Lw.eqB (beq_iff_eq.2 (sgn_zero.2 h1))), .call s2, .eq 65 (Lw.eqB (sgn_eq0 h2)), .call q2, .call q1, .call ls, .call (FTwo hG), .call dv] (by kernel_rfl)
  · exact Spec.of_run hG Tryz.func25 (ro := [3, 4, 5]) (m := 60) [.call c, .call vl, .call a1, .call a2, .call sb', .call s1, .eq 60 (Lw.eqB (sgn_eq0 h1)), .call q2, .call q1, .call ls, .call (FTwo hG), .call dv] (by kernel_rfl)
theorem Bis_same (hG : Steady G) {p q : Mv} {a b : Rat} (hp : p.ok 2) (hq : q.ok 2) (sa : SzQ 2 a) (sb : SzQ 2 b) (hn : bisA p q a b = 0 ∧ bisB p q a b = 0) :
    Spec Tryz.prog G 25 [p.dat, q.dat, FPl a b] (.tup [F 0, F 0, F 0, errno 8]) := by
  have kb := KB_eq
  have c := check2_spec (G := G) hG (Mv.raw_ok hp) (Mv.raw_ok hq) (by omega)
  rw [Mv.raw_valid hp, Mv.raw_valid hq] at c
  have vl := QValidF (G := G) hG sa sb (by omega)
  have a1 := PApplyM (G := G) hG hp sa sb (by omega)
  have a2 := PApplyM (G := G) hG hq sa sb (by omega)
  obtain ⟨x1, y1⟩ := im32 hp sa sb
  obtain ⟨x2, y2⟩ := im32 hq sa sb
  obtain ⟨z1, z2, z3⟩ := bis_sz hp hq sa sb
  have sb' := Qsub_spec (G := G) hG x2 y2 x1 y1 (by omega)
  have s1 := FSign_spec (G := G) hG z1.isQ (by omega)
  have s2 := FSign_spec (G := G) hG z2.isQ (by omega)
  exact Spec.of_run hG Tryz.func25 (ro := [3, 4, 5]) (m := 60) [.call c, .call vl, .call a1, .call a2, .call sb', .call s1, .eq 60 (Lw.eqB (beq_iff_eq.2 (sgn_zero.2 hn.1))), .call s2, .eq 65 (Lw.eqB (beq_iff_eq.2 (sgn_zero.2 hn.2)))] (by kernel_rfl)
theorem sub0 {a b : Rat} : b - a = 0 ↔ a = b := by constructor <;> intro h <;> grind
theorem PRApplyM (hG : Steady G) {k l : Nat} {m : Mv} {a b : Rat} (h : m.ok k) (sa : SzQ l a) (sb : SzQ l b) (hk : 9 * k + 2 * l + 10 ≤ KB) : Spec Tryz.prog G 73 [m.dat, FPl a b] (FPl (m.imX a b) (m.imY a b)) :=
  PRApply_spec hG h.1 h.2.1 h.2.2.1 sa sb hk
theorem RBis_ok (hG : Steady G) {p q : Mv} {a b : Rat} (hp : p.ok 2) (hq : q.ok 2) (sa : SzQ 2 a) (sb : SzQ 2 b) (hn : ¬ (bisA p q a b = 0 ∧ bisB p q a b = 0)) :
    Spec Tryz.prog G 35 [p.dat, q.dat, FPl a b] (.tup [F (bisA p q a b), F (bisB p q a b), F (bisC p q a b), int 0]) := by
  have kb := KB_eq
  have a1 := PRApplyM (G := G) hG hp sa sb (by omega)
  have a2 := PRApplyM (G := G) hG hq sa sb (by omega)
  obtain ⟨x1, y1⟩ := im32 hp sa sb
  obtain ⟨x2, y2⟩ := im32 hq sa sb
  have sm := PRSamePl_spec (G := G) hG x1 y1 x2 y2 (by omega)
  have e : (decide (p.imX a b = q.imX a b) && decide (p.imY a b = q.imY a b)) = false := by
    rw [← Bool.decide_and]
    exact decide_eq_false fun h => hn ⟨sub0.2 h.1, sub0.2 h.2⟩
  rw [e] at sm
  have ls := PRless_spec (G := G) hG x2 y2 x1 y1 (by omega)
  have q2 := PRsq_spec (G := G) hG x2 y2 (by omega)
  have q1 := PRsq_spec (G := G) hG x1 y1 (by omega)
  have sb' := RFSub_spec (G := G) hG (x2.sq2 y2).isQ (x1.sq2 y1).isQ (by omega) (by omega)
  have dv := RFDiv_spec (G := G) hG ((x2.sq2 y2).sub (x1.sq2 y1)).isQ sz_2.isQ (by omega) (by omega) (by decide +kernel)
  exact Spec.of_run hG Tryz.func35 (ro := [3, 4, 5]) (m := 60) [.call a1, .call a2, .call sm, .call ls, .call q2, .call q1, .call sb', .call (RTwo hG), .call dv] (by kernel_rfl)
theorem RBis_same (hG : Steady G) {p q : Mv} {a b : Rat} (hp : p.ok 2) (hq : q.ok 2) (sa : SzQ 2 a) (sb : SzQ 2 b) (hn : bisA p q a b = 0 ∧ bisB p q a b = 0) :
    Spec Tryz.prog G 35 [p.dat, q.dat, FPl a b] (.tup [F 0, F 0, F 0, int 8]) := by
  have kb := KB_eq
  have a1 := PRApplyM (G := G) hG hp sa sb (by omega)
  have a2 := PRApplyM (G := G) hG hq sa sb (by omega)
  obtain ⟨x1, y1⟩ := im32 hp sa sb
  obtain ⟨x2, y2⟩ := im32 hq sa sb
  have sm := PRSamePl_spec (G := G) hG x1 y1 x2 y2 (by omega)
  have e : (decide (p.imX a b = q.imX a b) && decide (p.imY a b = q.imY a b)) = true := by
    rw [← Bool.decide_and]
    exact decide_eq_true ⟨sub0.1 hn.1, sub0.1 hn.2⟩
  rw [e] at sm
  exact Spec.of_run hG Tryz.func35 (ro := [3, 4, 5]) (m := 60) [.call a1, .call a2, .call sm] (by kernel_rfl)

/-! ### The reference's pole -/
theorem PRFixedM (hG : Steady G) {k : Nat} {m : Mv} (h : m.ok k) (hn : ¬ m.still) (hk : 4 * k + 10 ≤ KB) : Spec Tryz.prog G 51 [m.dat] (FPl m.fixX m.fixY) := by
  have := PRFixed_spec (G := G) hG h.1 h.2.1 h.2.2.1 hn hk
  obtain ⟨e1, e2⟩ := fix_ref h.2.2.2 hn m.x m.y
  rw [← e1, ← e2] at this
  exact this
theorem still_dec (m : Mv) : (!m.h && decide (m.t = 0)) = decide m.still := by
  obtain ⟨t, h, x, y⟩ := m
  unfold Mv.still
  cases h with
  | true => exact (decide_eq_false fun g => by cases g.1).symm
  | false =>
    show decide (t = 0) = _
    exact decide_eq_decide.2 ⟨fun g => ⟨rfl, g⟩, fun g => g.2⟩
theorem PRStillM (hG : Steady G) {k : Nat} {m : Mv} (h : m.ok k) (hk : k ≤ KB) : Spec Tryz.prog G 50 [FTn m.t m.h] (bool (decide m.still)) := by
  have := PRStill_spec (G := G) (h := m.h) hG h.1 hk
  rw [still_dec] at this
  exact this
theorem RPole_ok (hG : Steady G) {m w : Mv} (h : m.ok 2) (g : w.ok 2) (hn : ¬ (m.bet w).still) : Spec Tryz.prog G 18 [m.dat, w.dat] (.tup [FPl (m.bet w).fixX (m.bet w).fixY, int 0]) := by
  have kb := KB_eq
  have bt := PRBetM (G := G) hG h g (by omega)
  have st := PRStillM (G := G) hG (Mv.bet_ok h g) (by omega)
  rw [decide_eq_false hn] at st
  have fx := PRFixedM (G := G) hG (Mv.bet_ok h g) hn (by omega)
  exact Spec.of_run hG Tryz.func18 (ro := [2, 3]) (m := 60) [.call bt, .call st, .call fx] (by kernel_rfl)
theorem RPole_still (hG : Steady G) {m w : Mv} (h : m.ok 2) (g : w.ok 2) (hs : (m.bet w).still) : Spec Tryz.prog G 18 [m.dat, w.dat] (.tup [FPl 0 0, int 8]) := by
  have kb := KB_eq
  have bt := PRBetM (G := G) hG h g (by omega)
  have st := PRStillM (G := G) hG (Mv.bet_ok h g) (by omega)
  rw [decide_eq_true hs] at st
  exact Spec.of_run hG Tryz.func18 (ro := [2, 3]) (m := 60) [.call bt, .call st] (by kernel_rfl)
end Lw
