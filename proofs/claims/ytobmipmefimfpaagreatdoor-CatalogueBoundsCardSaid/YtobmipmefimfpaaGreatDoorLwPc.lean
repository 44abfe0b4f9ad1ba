/- Turns and displacements of the program, run. No condition. -/
import Derived.Test.YtobmipmefimfpaaGreatDoorLwPa
namespace Lw
open Go Go.RowKit Go.Proofs

variable {G : World → Prop}

/-! ### turn -/
theorem sgn_eq0 {a : Rat} (h : ¬ a = 0) : (sgn a == 0) = false := by rw [beq_eq_false_iff_ne]; exact fun hh => h (sgn_zero.1 hh)
theorem sgn_nz {a : Rat} (h : ¬ a = 0) : (sgn a != 0) = true := by rw [bne_iff_ne]; exact fun hh => h (sgn_zero.1 hh)
theorem TCheck_ok (hG : Steady G) {k : Nat} {r : RTn} (hr : r.ok k) (hk : k ≤ KB) (hv : r.valid = true) : Spec Tryz.prog G 44 [r.dat] (.lit .nilIface) := by
  have f1 := FValid_spec (G := G) hG hr hk
  have s1 := FSign_spec (G := G) hG (Raw.ok.isQ hr) hk
  obtain ⟨t, h⟩ := r
  unfold RTn.valid at hv
  simp only [Bool.and_eq_true] at hv
  have hv1 : t.valid = true := hv.1
  have f2 : Spec Tryz.prog G 53 [t.dat] (bool t.valid) := f1
  clear f1
  rw [hv1] at f2
  cases h with
  | false => exact Spec.of_run hG Tryz.func44 (ro := [1]) (m := 40)
                  [.call f2] (by kernel_rfl)
  | true =>
    have h0 : t.q = 0 := by
      have := hv.2
      simpa using this
    have s2 : Spec Tryz.prog G 32 [t.dat] (int (sgn t.q)) := s1
    rw [sgn_zero.2 h0] at s2
    exact Spec.of_run hG Tryz.func44 (ro := [1]) (m := 40) [.call f2, .call s2] (by kernel_rfl)
theorem TCheck_bad (hG : Steady G) {k : Nat} {r : RTn} (hr : r.ok k) (hk : k ≤ KB) (hv : r.valid = false) : Spec Tryz.prog G 44 [r.dat] (errno 2) := by
  have f1 := FValid_spec (G := G) hG hr hk
  have s1 := FSign_spec (G := G) hG (Raw.ok.isQ hr) hk
  obtain ⟨t, h⟩ := r
  have f2 : Spec Tryz.prog G 53 [t.dat] (bool t.valid) := f1
  clear f1
  have s2 : Spec Tryz.prog G 32 [t.dat] (int (sgn t.q)) := s1
  unfold RTn.valid at hv
  cases hv1 : t.valid with
  | false =>
    rw [hv1] at f2
    exact Spec.of_run hG Tryz.func44 (ro := [1]) (m := 40) [.call f2] (by kernel_rfl)
  | true =>
    rw [hv1] at f2 hv
    cases h with
    | false => cases hv
    | true =>
      have h0 : t.q ≠ 0 := by simpa using hv
      exact Spec.of_run hG Tryz.func44 (ro := [1]) (m := 40) [.call f2, .call s2, .eq 14 (eqB (sgn_nz h0))] (by kernel_rfl)
/-- Canonical turns are checked. -/
theorem TCheckF (hG : Steady G) {k : Nat} {t : Rat} {h : Bool} (s : SzQ k t) (v : h = true → t = 0) (hk : k ≤ KB) : Spec Tryz.prog G 44 [FTn t h] (.lit .nilIface) := TCheck_ok hG (r := ⟨rawOf t, h⟩) s.ok hk (FTn_valid v)
theorem Tover_spec (hG : Steady G) {k l : Nat} {x y : D} {a b : Rat} (hx : IsQ k x a) (hy : IsQ l y b) (hk : k ≤ KB) (hl : l ≤ KB) (hb : b ≠ 0) : Spec Tryz.prog G 170 [x, y] (F (a / b)) := by
  have d := FDiv_spec (G := G) hG hx hy hk hl hb
  obtain ⟨p, rfl, -⟩ := hx
  obtain ⟨q, rfl, -⟩ := hy
  exact Spec.of_run hG Tryz.func170 (ro := [2, 3]) (m := 40) [.call d] (by kernel_rfl)
theorem one_cast : ((1 : Int) : Rat) = 1 := rfl
theorem two_cast : ((2 : Int) : Rat) = 2 := rfl
theorem neg_cast : ((-1 : Int) : Rat) = -1 := rfl
theorem sz_1 : SzQ 1 (1 : Rat) := sz_one (by omega)
theorem sz_2 : SzQ 1 (2 : Rat) := by unfold SzQ; decide +kernel
theorem sz_m1 : SzQ 1 (-1 : Rat) := sz_1.neg
theorem FOne (hG : Steady G) : Spec Tryz.prog G 75 [int 1] (F 1) := FOf_spec hG (i := 1) (by omega) (by omega)
theorem FTwo (hG : Steady G) : Spec Tryz.prog G 75 [int 2] (F 2) := FOf_spec hG (i := 2) (by omega) (by omega)
theorem FMinus (hG : Steady G) : Spec Tryz.prog G 75 [int (-1)] (F (-1)) := FOf_spec hG (i := -1) (by omega) (by omega)
theorem SzQ.cosT {k : Nat} {t : Rat} (s : SzQ k t) (h : Bool) : SzQ (4 * k + 4) (cosT t h) := by
  cases h with
  | true => exact sz_m1.mono (by omega)
  | false => exact ((sz_1.sub (s.mul s)).div (sz_1.add (s.mul s))).mono (by omega)
theorem SzQ.sinT {k : Nat} {t : Rat} (s : SzQ k t) (h : Bool) : SzQ (4 * k + 4) (sinT t h) := by
  cases h with
  | true => exact sz_zero (by omega)
  | false => exact ((s.add s).div (sz_1.add (s.mul s))).mono (by omega)
theorem Tdir_spec (hG : Steady G) {k : Nat} {t : Rat} {h : Bool} (s : SzQ k t) (hk : 4 * k + 4 ≤ KB) : Spec Tryz.prog G 160 [FTn t h] (.tup [F (cosT t h), F (sinT t h)]) := by
  cases h with
  | true => exact Spec.of_run hG Tryz.func160 (ro := [1]) (m := 40) [.call (FMinus hG)] (by kernel_rfl)
  | false =>
    have ml := FMul_spec (G := G) hG s.isQ s.isQ (by omega) (by omega)
    have ad := FAdd_spec (G := G) hG sz_1.isQ (s.mul s).isQ (by omega) (by omega)
    have sb := FSub_spec (G := G) hG sz_1.isQ (s.mul s).isQ (by omega) (by omega)
    have tt := FAdd_spec (G := G) hG s.isQ s.isQ (by omega) (by omega)
    have o1 := Tover_spec (G := G) hG (sz_1.sub (s.mul s)).isQ (sz_1.add (s.mul s)).isQ (by omega) (by omega) (dnT_ne t)
    have o2 := Tover_spec (G := G) hG (s.add s).isQ (sz_1.add (s.mul s)).isQ (by omega) (by omega) (dnT_ne t)
    exact Spec.of_run hG Tryz.func160 (ro := [1]) (m := 40) [.call (FOne hG), .call ml, .call ad, .call sb, .call o1, .call tt, .call o2] (by kernel_rfl)
theorem TCos_spec (hG : Steady G) {k : Nat} {t : Rat} {h : Bool} (s : SzQ k t) (v : h = true → t = 0) (hk : 4 * k + 4 ≤ KB) : Spec Tryz.prog G 143 [FTn t h] (.tup [F (cosT t h), .lit .nilIface]) :=
  Spec.of_run hG Tryz.func143 (ro := [1]) (m := 40) [.call (TCheckF hG s v (by omega)), .call (Tdir_spec (h := h) hG s hk)] (by kernel_rfl)
theorem TSin_spec (hG : Steady G) {k : Nat} {t : Rat} {h : Bool} (s : SzQ k t) (v : h = true → t = 0) (hk : 4 * k + 4 ≤ KB) : Spec Tryz.prog G 144 [FTn t h] (.tup [F (sinT t h), .lit .nilIface]) :=
  Spec.of_run hG Tryz.func144 (ro := [1]) (m := 40) [.call (TCheckF hG s v (by omega)), .call (Tdir_spec (h := h) hG s hk)] (by kernel_rfl)
theorem SzQ.addT {k l : Nat} {t u : Rat} (s : SzQ k t) (s' : SzQ l u) (h g : Bool) : SzQ (2 * k + 2 * l + 4) (addTt t h u g) := by
  unfold addTt
  split
  · exact sz_zero (by omega)
  · split
    · split
      · exact sz_zero (by omega)
      · exact (sz_m1.div s).mono (by omega)
    · split
      · split
        · exact sz_zero (by omega)
        · exact (sz_m1.div s').mono (by omega)
      · split
        · exact sz_zero (by omega)
        · exact ((s.add s').div (sz_1.sub (s.mul s'))).mono (by omega)
theorem addTt_ht (u : Rat) : addTt 0 true u false = (if u = 0 then 0 else -1 / u) := rfl
theorem addTh_ht (u : Rat) : addTh 0 true u false = decide (u = 0) := rfl
theorem addTt_th (u : Rat) : addTt u false 0 true = (if u = 0 then 0 else -1 / u) := rfl
theorem addTh_th (u : Rat) : addTh u false 0 true = decide (u = 0) := rfl
theorem addTt_tt (t u : Rat) : addTt t false u false = (if 1 - t * u = 0 then 0 else (t + u) / (1 - t * u)) := rfl
theorem addTh_tt (t u : Rat) : addTh t false u false = decide (1 - t * u = 0) := rfl
/-! ### pose -/
theorem PDir_ok (hG : Steady G) {k : Nat} {t : Rat} {h : Bool} (s : SzQ k t) (v : h = true → t = 0) (hk : 4 * k + 4 ≤ KB) : Spec Tryz.prog G 114 [FTn t h] (.tup [F (cosT t h), F (sinT t h), .lit .nilIface]) :=
  Spec.of_run hG Tryz.func114 (ro := [1]) (m := 40) [.call (TCheckF hG s v (by omega)), .call (TCos_spec hG s v hk), .call (TSin_spec hG s v hk)] (by kernel_rfl)
theorem PDir_bad (hG : Steady G) {k : Nat} {r : RTn} (hr : r.ok k) (hk : k ≤ KB) (hv : r.valid = false) : Spec Tryz.prog G 114 [r.dat] (.tup [F 0, F 0, errno 2]) :=
  Spec.of_run hG Tryz.func114 (ro := [1]) (m := 40) [.call (TCheck_bad hG hr hk hv)] (by kernel_rfl)
/-- Sizes of a place rotated. -/
def rotX (t : Rat) (h : Bool) (a b : Rat) : Rat := cosT t h * a - sinT t h * b
def rotY (t : Rat) (h : Bool) (a b : Rat) : Rat := sinT t h * a + cosT t h * b
theorem SzQ.rot {k l : Nat} {t a b : Rat} (s : SzQ k t) (sa : SzQ l a) (sb : SzQ l b) (h : Bool) : SzQ (8 * k + 2 * l + 9) (rotX t h a b) ∧ SzQ (8 * k + 2 * l + 9) (rotY t h a b) :=
  ⟨(((s.cosT h).mul sa).sub ((s.sinT h).mul sb)).mono (by omega), (((s.sinT h).mul sa).add ((s.cosT h).mul sb)).mono (by omega)⟩
/-- The image of a place. -/
def imgX (t : Rat) (h : Bool) (X a b : Rat) : Rat := rotX t h a b + X
def imgY (t : Rat) (h : Bool) (Y a b : Rat) : Rat := rotY t h a b + Y
theorem SzQ.img {k l : Nat} {t a b X Y : Rat} (s : SzQ k t) (sX : SzQ k X) (sY : SzQ k Y) (sa : SzQ l a) (sb : SzQ l b) (h : Bool) : SzQ (9 * k + 2 * l + 10) (imgX t h X a b) ∧ SzQ (9 * k + 2 * l + 10) (imgY t h Y a b) :=
  ⟨((s.rot sa sb h).1.add sX).mono (by omega), ((s.rot sa sb h).2.add sY).mono (by omega)⟩
end Lw

namespace Lw
open Go Go.RowKit Go.Proofs

variable {G : World → Prop}

theorem sgn_dec (a : Rat) : (sgn a == 0) = decide (a = 0) := by
  rw [Bool.eq_iff_iff, beq_iff_eq, decide_eq_true_eq, sgn_zero]
theorem PZero_spec (hG : Steady G) {k : Nat} {x : D} {a : Rat} (hx : IsQ k x a) (hk : k ≤ KB) : Spec Tryz.prog G 142 [x] (bool (decide (a = 0))) := by
  have s := RFSign_spec (G := G) hG hx hk
  rw [← sgn_dec]
  obtain ⟨p, rfl, -⟩ := hx
  exact Spec.of_run hG Tryz.func142 (ro := [1]) (m := 40) [.call s] (by kernel_rfl)
theorem PRTurn_spec (hG : Steady G) {k : Nat} {r : RTn} (hr : r.ok k) (hk : k ≤ KB) : Spec Tryz.prog G 113 [r.dat] (bool r.valid) := by
  have f1 := RFValid_spec (G := G) hG hr hk
  have z1 := PZero_spec (G := G) hG (Raw.ok.isQ hr) hk
  obtain ⟨t, h⟩ := r
  have f2 : Spec Tryz.prog G 38 [t.dat] (bool t.valid) := f1
  have z2 : Spec Tryz.prog G 142 [t.dat] (bool (decide (t.q = 0))) := z1
  clear f1 z1
  unfold RTn.valid
  cases hv1 : t.valid with
  | false =>
    rw [hv1] at f2
    exact Spec.of_run hG Tryz.func113 (ro := [1]) (m := 40) [.call f2] (by kernel_rfl)
  | true =>
    rw [hv1] at f2
    cases h with
    | false => exact Spec.of_run hG Tryz.func113 (ro := [1]) (m := 40) [.call f2] (by kernel_rfl)
    | true =>
      by_cases h0 : t.q = 0
      · rw [decide_eq_true h0] at z2
        rw [decide_eq_false (not_not_intro h0)]
        exact Spec.of_run hG Tryz.func113 (ro := [1]) (m := 40) [.call f2, .call z2] (by kernel_rfl)
      · rw [decide_eq_false h0] at z2
        rw [decide_eq_true h0]
        exact Spec.of_run hG Tryz.func113 (ro := [1]) (m := 40) [.call f2, .call z2] (by kernel_rfl)
theorem PRover_spec (hG : Steady G) {k l : Nat} {x y : D} {a b : Rat} (hx : IsQ k x a) (hy : IsQ l y b) (hk : k ≤ KB) (hl : l ≤ KB) (hb : b ≠ 0) : Spec Tryz.prog G 145 [x, y] (F (a / b)) := by
  have d := RFDiv_spec (G := G) hG hx hy hk hl hb
  obtain ⟨p, rfl, -⟩ := hx
  obtain ⟨q, rfl, -⟩ := hy
  exact Spec.of_run hG Tryz.func145 (ro := [2, 3]) (m := 40) [.call d] (by kernel_rfl)
theorem ROne (hG : Steady G) : Spec Tryz.prog G 82 [int 1] (F 1) := RFOf_spec hG (i := 1) (by omega) (by omega)
theorem RTwo (hG : Steady G) : Spec Tryz.prog G 82 [int 2] (F 2) := RFOf_spec hG (i := 2) (by omega) (by omega)
theorem RMinus (hG : Steady G) : Spec Tryz.prog G 82 [int (-1)] (F (-1)) := RFOf_spec hG (i := -1) (by omega) (by omega)
theorem PRdir_spec (hG : Steady G) {k : Nat} {t : Rat} {h : Bool} (s : SzQ k t) (hk : 4 * k + 4 ≤ KB) : Spec Tryz.prog G 117 [FTn t h] (.tup [F (cosT t h), F (sinT t h)]) := by
  cases h with
  | true => exact Spec.of_run hG Tryz.func117 (ro := [1]) (m := 40) [.call (RMinus hG)] (by kernel_rfl)
  | false =>
    have ml := RFMul_spec (G := G) hG s.isQ s.isQ (by omega) (by omega)
    have ad := RFAdd_spec (G := G) hG sz_1.isQ (s.mul s).isQ (by omega) (by omega)
    have sb := RFSub_spec (G := G) hG sz_1.isQ (s.mul s).isQ (by omega) (by omega)
    have tt := RFAdd_spec (G := G) hG s.isQ s.isQ (by omega) (by omega)
    have o1 := PRover_spec (G := G) hG (sz_1.sub (s.mul s)).isQ (sz_1.add (s.mul s)).isQ (by omega) (by omega) (dnT_ne t)
    have o2 := PRover_spec (G := G) hG (s.add s).isQ (sz_1.add (s.mul s)).isQ (by omega) (by omega) (dnT_ne t)
    exact Spec.of_run hG Tryz.func117 (ro := [1]) (m := 40) [.call (ROne hG), .call ml, .call ad, .call sb, .call o1, .call tt, .call o2] (by kernel_rfl)
theorem SzQ.cotT {k : Nat} {t : Rat} (s : SzQ k t) (h : Bool) : SzQ (k + 2) (cotT t h) := by
  cases h with
  | true => exact sz_zero (by omega)
  | false => exact ((sz_1.div sz_2).div s).mono (by omega)
end Lw

namespace Lw
open Go Go.RowKit Go.Proofs

variable {G : World → Prop}

theorem neg_valid {t : Rat} {h : Bool} (v : h = true → t = 0) : h = true → -t = 0 := fun e => by rw [v e]; rfl
/-- From one displacement to another one. -/
def betT (t : Rat) (h : Bool) (u : Rat) (g : Bool) : Rat := addTt (-t) h u g
def betH (t : Rat) (h : Bool) (u : Rat) (g : Bool) : Bool := addTh (-t) h u g
def betX (t : Rat) (h : Bool) (X Y u : Rat) (g : Bool) (X' : Rat) : Rat := imgX u g X' (rotX (-t) h (-X) (-Y)) (rotY (-t) h (-X) (-Y))
def betY (t : Rat) (h : Bool) (X Y u : Rat) (g : Bool) (Y' : Rat) : Rat := imgY u g Y' (rotX (-t) h (-X) (-Y)) (rotY (-t) h (-X) (-Y))
/-! ### The reference -/
end Lw
