/- Turns and displacements of the program, run. No condition. -/
import Derived.Test.YthccbdlkfiogiaaGreatDoorLwPa
namespace Lw
open Go Go.RowKit Go.Proofs

variable {G : World → Prop}

/-! ### turn -/
theorem sgn_eq0 {a : Rat} (h : ¬ a = 0) : (sgn a == 0) = false := by rw [beq_eq_false_iff_ne]; exact fun hh => h (sgn_zero.1 hh)
theorem sgn_nz {a : Rat} (h : ¬ a = 0) : (sgn a != 0) = true := by rw [bne_iff_ne]; exact fun hh => h (sgn_zero.1 hh)
theorem TCheck_ok (hG : Steady G) {k : Nat} {r : RTn} (hr : r.ok k) (hk : k ≤ KB) (hv : r.valid = true) : Spec Tryz.prog G 54 [r.dat] (.lit .nilIface) := by
  have f1 := FValid_spec (G := G) hG hr hk
  have s1 := FSign_spec (G := G) hG (Raw.ok.isQ hr) hk
  obtain ⟨t, h⟩ := r
  unfold RTn.valid at hv
  simp only [Bool.and_eq_true] at hv
  have hv1 : t.valid = true := hv.1
  have f2 : Spec Tryz.prog G 95 [t.dat] (bool t.valid) := f1
  clear f1
  rw [hv1] at f2
  cases h with
  | false => exact Spec.of_run hG Tryz.func54 (ro := [1]) (m := 40)
                  [.call f2] (by kernel_rfl)
  | true =>
    have h0 : t.q = 0 := by
      have := hv.2
      simpa using this
    have s2 : Spec Tryz.prog G 42 [t.dat] (int (sgn t.q)) := s1
    rw [sgn_zero.2 h0] at s2
    exact Spec.of_run hG Tryz.func54 (ro := [1]) (m := 40) [.call f2, .call s2] (by kernel_rfl)
theorem TCheck_bad (hG : Steady G) {k : Nat} {r : RTn} (hr : r.ok k) (hk : k ≤ KB) (hv : r.valid = false) : Spec Tryz.prog G 54 [r.dat] (errno 2) := by
  have f1 := FValid_spec (G := G) hG hr hk
  have s1 := FSign_spec (G := G) hG (Raw.ok.isQ hr) hk
  obtain ⟨t, h⟩ := r
  have f2 : Spec Tryz.prog G 95 [t.dat] (bool t.valid) := f1
  clear f1
  have s2 : Spec Tryz.prog G 42 [t.dat] (int (sgn t.q)) := s1
  unfold RTn.valid at hv
  cases hv1 : t.valid with
  | false =>
    rw [hv1] at f2
    exact Spec.of_run hG Tryz.func54 (ro := [1]) (m := 40) [.call f2] (by kernel_rfl)
  | true =>
    rw [hv1] at f2 hv
    cases h with
    | false => cases hv
    | true =>
      have h0 : t.q ≠ 0 := by simpa using hv
      exact Spec.of_run hG Tryz.func54 (ro := [1]) (m := 40) [.call f2, .call s2, .eq 14 (eqB (sgn_nz h0))] (by kernel_rfl)
/-- Canonical turns are checked. -/
theorem TCheckF (hG : Steady G) {k : Nat} {t : Rat} {h : Bool} (s : SzQ k t) (v : h = true → t = 0) (hk : k ≤ KB) : Spec Tryz.prog G 54 [FTn t h] (.lit .nilIface) := TCheck_ok hG (r := ⟨rawOf t, h⟩) s.ok hk (FTn_valid v)
theorem Tover_spec (hG : Steady G) {k l : Nat} {x y : D} {a b : Rat} (hx : IsQ k x a) (hy : IsQ l y b) (hk : k ≤ KB) (hl : l ≤ KB) (hb : b ≠ 0) : Spec Tryz.prog G 149 [x, y] (F (a / b)) := by
  have d := FDiv_spec (G := G) hG hx hy hk hl hb
  obtain ⟨p, rfl, -⟩ := hx
  obtain ⟨q, rfl, -⟩ := hy
  exact Spec.of_run hG Tryz.func149 (ro := [2, 3]) (m := 40) [.call d] (by kernel_rfl)
theorem one_cast : ((1 : Int) : Rat) = 1 := rfl
theorem two_cast : ((2 : Int) : Rat) = 2 := rfl
theorem neg_cast : ((-1 : Int) : Rat) = -1 := rfl
theorem sz_1 : SzQ 1 (1 : Rat) := sz_one (by omega)
theorem sz_2 : SzQ 1 (2 : Rat) := by unfold SzQ; decide +kernel
theorem sz_m1 : SzQ 1 (-1 : Rat) := sz_1.neg
theorem FOne (hG : Steady G) : Spec Tryz.prog G 64 [int 1] (F 1) := FOf_spec hG (i := 1) (by omega) (by omega)
theorem FTwo (hG : Steady G) : Spec Tryz.prog G 64 [int 2] (F 2) := FOf_spec hG (i := 2) (by omega) (by omega)
theorem FMinus (hG : Steady G) : Spec Tryz.prog G 64 [int (-1)] (F (-1)) := FOf_spec hG (i := -1) (by omega) (by omega)
theorem SzQ.cosT {k : Nat} {t : Rat} (s : SzQ k t) (h : Bool) : SzQ (4 * k + 4) (cosT t h) := by
  cases h with
  | true => exact sz_m1.mono (by omega)
  | false => exact ((sz_1.sub (s.mul s)).div (sz_1.add (s.mul s))).mono (by omega)
theorem SzQ.sinT {k : Nat} {t : Rat} (s : SzQ k t) (h : Bool) : SzQ (4 * k + 4) (sinT t h) := by
  cases h with
  | true => exact sz_zero (by omega)
  | false => exact ((s.add s).div (sz_1.add (s.mul s))).mono (by omega)
theorem Tdir_spec (hG : Steady G) {k : Nat} {t : Rat} {h : Bool} (s : SzQ k t) (hk : 4 * k + 4 ≤ KB) : Spec Tryz.prog G 158 [FTn t h] (.tup [F (cosT t h), F (sinT t h)]) := by
  cases h with
  | true => exact Spec.of_run hG Tryz.func158 (ro := [1]) (m := 40) [.call (FMinus hG)] (by kernel_rfl)
  | false =>
    have ml := FMul_spec (G := G) hG s.isQ s.isQ (by omega) (by omega)
    have ad := FAdd_spec (G := G) hG sz_1.isQ (s.mul s).isQ (by omega) (by omega)
    have sb := FSub_spec (G := G) hG sz_1.isQ (s.mul s).isQ (by omega) (by omega)
    have tt := FAdd_spec (G := G) hG s.isQ s.isQ (by omega) (by omega)
    have o1 := Tover_spec (G := G) hG (sz_1.sub (s.mul s)).isQ (sz_1.add (s.mul s)).isQ (by omega) (by omega) (dnT_ne t)
    have o2 := Tover_spec (G := G) hG (s.add s).isQ (sz_1.add (s.mul s)).isQ (by omega) (by omega) (dnT_ne t)
    exact Spec.of_run hG Tryz.func158 (ro := [1]) (m := 40) [.call (FOne hG), .call ml, .call ad, .call sb, .call o1, .call tt, .call o2] (by kernel_rfl)
theorem TCos_spec (hG : Steady G) {k : Nat} {t : Rat} {h : Bool} (s : SzQ k t) (v : h = true → t = 0) (hk : 4 * k + 4 ≤ KB) : Spec Tryz.prog G 131 [FTn t h] (.tup [F (cosT t h), .lit .nilIface]) :=
  Spec.of_run hG Tryz.func131 (ro := [1]) (m := 40) [.call (TCheckF hG s v (by omega)), .call (Tdir_spec (h := h) hG s hk)] (by kernel_rfl)
theorem TSin_spec (hG : Steady G) {k : Nat} {t : Rat} {h : Bool} (s : SzQ k t) (v : h = true → t = 0) (hk : 4 * k + 4 ≤ KB) : Spec Tryz.prog G 132 [FTn t h] (.tup [F (sinT t h), .lit .nilIface]) :=
  Spec.of_run hG Tryz.func132 (ro := [1]) (m := 40) [.call (TCheckF hG s v (by omega)), .call (Tdir_spec (h := h) hG s hk)] (by kernel_rfl)
theorem Tneg_spec (hG : Steady G) {k : Nat} {t : Rat} {h : Bool} (s : SzQ k t) (hk : k ≤ KB) : Spec Tryz.prog G 124 [FTn t h] (FTn (-t) h) := by
  have n := FNeg_spec (G := G) hG s.isQ hk
  exact Spec.of_run hG Tryz.func124 (ro := [1]) (m := 40) [.call n] (by kernel_rfl)
theorem TNeg_spec (hG : Steady G) {k : Nat} {t : Rat} {h : Bool} (s : SzQ k t) (v : h = true → t = 0) (hk : k ≤ KB) : Spec Tryz.prog G 84 [FTn t h] (.tup [FTn (-t) h, .lit .nilIface]) :=
  Spec.of_run hG Tryz.func84 (ro := [1]) (m := 40) [.call (TCheckF hG s v (by omega)), .call (Tneg_spec (h := h) hG s hk)] (by kernel_rfl)
theorem Thalf_spec (hG : Steady G) : Spec Tryz.prog G 150 [] (FTn 0 true) := Spec.of_run hG Tryz.func150 (ro := []) (m := 40) [] (by kernel_rfl)
theorem SzQ.addT {k l : Nat} {t u : Rat} (s : SzQ k t) (s' : SzQ l u) (h g : Bool) : SzQ (2 * k + 2 * l + 4) (addTt t h u g) := by
  unfold addTt
  split
  · exact sz_zero (by omega)
  · split
    · split
      · exact sz_zero (by omega)
      · exact (sz_m1.div s).mono (by omega)
    · split
      · split
        · exact sz_zero (by omega)
        · exact (sz_m1.div s').mono (by omega)
      · split
        · exact sz_zero (by omega)
        · exact ((s.add s').div (sz_1.sub (s.mul s'))).mono (by omega)
theorem addTt_ht (u : Rat) : addTt 0 true u false = (if u = 0 then 0 else -1 / u) := rfl
theorem addTh_ht (u : Rat) : addTh 0 true u false = decide (u = 0) := rfl
theorem addTt_th (u : Rat) : addTt u false 0 true = (if u = 0 then 0 else -1 / u) := rfl
theorem addTh_th (u : Rat) : addTh u false 0 true = decide (u = 0) := rfl
theorem addTt_tt (t u : Rat) : addTt t false u false = (if 1 - t * u = 0 then 0 else (t + u) / (1 - t * u)) := rfl
theorem addTh_tt (t u : Rat) : addTh t false u false = decide (1 - t * u = 0) := rfl
/-- Half a turn and a turn. -/
theorem Tadd_ht (hG : Steady G) {k : Nat} {u : Rat} (s : SzQ k u) (hk : k + 1 ≤ KB) : Spec Tryz.prog G 126 [FTn 0 true, FTn u false] (FTn (addTt 0 true u false) (addTh 0 true u false)) := by
  have sg := FSign_spec (G := G) hG s.isQ (by omega)
  rw [addTt_ht, addTh_ht]
  by_cases h0 : u = 0
  · rw [if_pos h0, decide_eq_true h0]
    rw [sgn_zero.2 h0] at sg
    exact Spec.of_run hG Tryz.func126 (ro := [2, 3]) (m := 60) [.call sg] (by kernel_rfl)
  · rw [if_neg h0, decide_eq_false h0]
    have o := Tover_spec (G := G) hG sz_m1.isQ s.isQ (by omega) (by omega) h0
    exact Spec.of_run hG Tryz.func126 (ro := [2, 3]) (m := 60) [.call sg, .eq 27 (eqB (sgn_eq0 h0)), .call (FMinus hG), .call o] (by kernel_rfl)
theorem Tadd_spec (hG : Steady G) {k l : Nat} {t u : Rat} {h g : Bool} (s : SzQ k t) (s' : SzQ l u) (vt : h = true → t = 0) (vu : g = true → u = 0) (hk : k + l + 2 ≤ KB) :
    Spec Tryz.prog G 126 [FTn t h, FTn u g] (FTn (addTt t h u g) (addTh t h u g)) := by
  cases h with
  | true =>
    cases vt rfl
    cases g with
    | true =>
      cases vu rfl
      exact Spec.of_run hG Tryz.func126 (ro := [2, 3]) (m := 60) [] (by kernel_rfl)
    | false => exact Tadd_ht hG s' (by omega)
  | false =>
    cases g with
    | true =>
      cases vu rfl
      have r := Tadd_ht (G := G) hG s (by omega)
      exact Spec.of_run hG Tryz.func126 (ro := [2, 3]) (m := 60) [.call r] (by kernel_rfl)
    | false =>
      have ml := FMul_spec (G := G) hG s.isQ s'.isQ (by omega) (by omega)
      have sb := FSub_spec (G := G) hG sz_1.isQ (s.mul s').isQ (by omega) (by omega)
      have sg := FSign_spec (G := G) hG (sz_1.sub (s.mul s')).isQ (by omega)
      have ad := FAdd_spec (G := G) hG s.isQ s'.isQ (by omega) (by omega)
      rw [addTt_tt, addTh_tt]
      by_cases h0 : 1 - t * u = 0
      · rw [if_pos h0, decide_eq_true h0]
        rw [sgn_zero.2 h0] at sg
        exact Spec.of_run hG Tryz.func126 (ro := [2, 3]) (m := 60) [.call (FOne hG), .call ml, .call sb, .call sg, .call (Thalf_spec hG)] (by kernel_rfl)
      · rw [if_neg h0, decide_eq_false h0]
        have o := Tover_spec (G := G) hG (s.add s').isQ (sz_1.sub (s.mul s')).isQ (by omega) (by omega) h0
        exact Spec.of_run hG Tryz.func126 (ro := [2, 3]) (m := 60) [.call (FOne hG), .call ml, .call sb, .call sg, .eq 47 (eqB (sgn_eq0 h0)), .call ad, .call o] (by kernel_rfl)
theorem TAdd_spec (hG : Steady G) {k l : Nat} {t u : Rat} {h g : Bool} (s : SzQ k t) (s' : SzQ l u) (vt : h = true → t = 0) (vu : g = true → u = 0) (hk : k + l + 2 ≤ KB) :
    Spec Tryz.prog G 86 [FTn t h, FTn u g] (.tup [FTn (addTt t h u g) (addTh t h u g), .lit .nilIface]) :=
  Spec.of_run hG Tryz.func86 (ro := [2, 3]) (m := 60) [.inl [] Tryz.func125, .call (TCheckF hG s vt (by omega)), .call (TCheckF hG s' vu (by omega)), .call (Tadd_spec hG s s' vt vu hk)] (by kernel_rfl)

/-! ### pose -/
theorem PPlace_spec (hG : Steady G) {k : Nat} {r : RPl} (hr : r.ok k) (hk : k ≤ KB) : Spec Tryz.prog G 55 [r.dat] (bool r.valid) := by
  have f1 := FValid_spec (G := G) hG hr.1 hk
  have f2 := FValid_spec (G := G) hG hr.2 hk
  unfold RPl.valid
  cases h1 : r.x.valid with
  | false =>
    rw [h1] at f1
    exact Spec.of_run hG Tryz.func55 (ro := [1]) (m := 40) [.call f1] (by kernel_rfl)
  | true =>
    rw [h1] at f1
    exact Spec.of_run hG Tryz.func55 (ro := [1]) (m := 40) [.call f1, .call f2] (by kernel_rfl)
theorem PValid_spec (hG : Steady G) {k : Nat} {r : RPo} (hr : r.ok k) (hk : k ≤ KB) : Spec Tryz.prog G 22 [r.dat] (bool r.valid) := by
  have p1 := PPlace_spec (G := G) hG hr.2 hk
  unfold RPo.valid
  cases h1 : r.u.valid with
  | false =>
    have c1 := TCheck_bad (G := G) hG hr.1 hk h1
    exact Spec.of_run hG Tryz.func22 (ro := [1]) (m := 40) [.call c1] (by kernel_rfl)
  | true =>
    have c1 := TCheck_ok (G := G) hG hr.1 hk h1
    exact Spec.of_run hG Tryz.func22 (ro := [1]) (m := 40) [.call c1, .call p1] (by kernel_rfl)
theorem PValidF (hG : Steady G) {k : Nat} {t x y : Rat} {h : Bool} (s : SzQ k t) (sx : SzQ k x) (sy : SzQ k y) (v : h = true → t = 0) (hk : k ≤ KB) : Spec Tryz.prog G 22 [FPo t h x y] (bool true) := by
  have := PValid_spec (G := G) hG (r := ⟨⟨rawOf t, h⟩, ⟨rawOf x, rawOf y⟩⟩) ⟨s.ok, sx.ok, sy.ok⟩ hk
  rw [FPo_valid v] at this
  exact this
theorem PPlaceF (hG : Steady G) {k : Nat} {x y : Rat} (sx : SzQ k x) (sy : SzQ k y) (hk : k ≤ KB) : Spec Tryz.prog G 55 [FPl x y] (bool true) := by
  have := PPlace_spec (G := G) hG (r := ⟨rawOf x, rawOf y⟩) ⟨sx.ok, sy.ok⟩ hk
  rw [FPl_valid] at this
  exact this
theorem PDir_ok (hG : Steady G) {k : Nat} {t : Rat} {h : Bool} (s : SzQ k t) (v : h = true → t = 0) (hk : 4 * k + 4 ≤ KB) : Spec Tryz.prog G 89 [FTn t h] (.tup [F (cosT t h), F (sinT t h), .lit .nilIface]) :=
  Spec.of_run hG Tryz.func89 (ro := [1]) (m := 40) [.call (TCheckF hG s v (by omega)), .call (TCos_spec hG s v hk), .call (TSin_spec hG s v hk)] (by kernel_rfl)
theorem PDir_bad (hG : Steady G) {k : Nat} {r : RTn} (hr : r.ok k) (hk : k ≤ KB) (hv : r.valid = false) : Spec Tryz.prog G 89 [r.dat] (.tup [F 0, F 0, errno 2]) :=
  Spec.of_run hG Tryz.func89 (ro := [1]) (m := 40) [.call (TCheck_bad hG hr hk hv)] (by kernel_rfl)
/-- Sizes of a place rotated. -/
def rotX (t : Rat) (h : Bool) (a b : Rat) : Rat := cosT t h * a - sinT t h * b
def rotY (t : Rat) (h : Bool) (a b : Rat) : Rat := sinT t h * a + cosT t h * b
theorem SzQ.rot {k l : Nat} {t a b : Rat} (s : SzQ k t) (sa : SzQ l a) (sb : SzQ l b) (h : Bool) : SzQ (8 * k + 2 * l + 9) (rotX t h a b) ∧ SzQ (8 * k + 2 * l + 9) (rotY t h a b) :=
  ⟨(((s.cosT h).mul sa).sub ((s.sinT h).mul sb)).mono (by omega), (((s.sinT h).mul sa).add ((s.cosT h).mul sb)).mono (by omega)⟩
theorem Prot_spec (hG : Steady G) {k l : Nat} {t a b : Rat} {h : Bool} (s : SzQ k t) (v : h = true → t = 0) (sa : SzQ l a) (sb : SzQ l b) (hk : 8 * k + 2 * l + 9 ≤ KB) :
    Spec Tryz.prog G 56 [FTn t h, FPl a b] (.tup [FPl (rotX t h a b) (rotY t h a b), .lit .nilIface]) := by
  have m1 := FMul_spec (G := G) hG (s.cosT h).isQ sa.isQ (by omega) (by omega)
  have m2 := FMul_spec (G := G) hG (s.sinT h).isQ sb.isQ (by omega) (by omega)
  have b1 := FSub_spec (G := G) hG ((s.cosT h).mul sa).isQ ((s.sinT h).mul sb).isQ (by omega) (by omega)
  have m3 := FMul_spec (G := G) hG (s.sinT h).isQ sa.isQ (by omega) (by omega)
  have m4 := FMul_spec (G := G) hG (s.cosT h).isQ sb.isQ (by omega) (by omega)
  have a1 := FAdd_spec (G := G) hG ((s.sinT h).mul sa).isQ ((s.cosT h).mul sb).isQ (by omega) (by omega)
  exact Spec.of_run hG Tryz.func56 (ro := [2, 3]) (m := 60) [.call (PDir_ok hG s v (by omega)), .call m1, .call m2, .call b1, .call m3, .call m4, .call a1] (by kernel_rfl)
theorem Padd_spec (hG : Steady G) {k : Nat} {a b x y : Rat} (sa : SzQ k a) (sb : SzQ k b) (sx : SzQ k x) (sy : SzQ k y) (hk : k ≤ KB) : Spec Tryz.prog G 57 [FPl a b, FPl x y] (FPl (a + x) (b + y)) := by
  have a1 := FAdd_spec (G := G) hG sa.isQ sx.isQ hk hk
  have a2 := FAdd_spec (G := G) hG sb.isQ sy.isQ hk hk
  exact Spec.of_run hG Tryz.func57 (ro := [2, 3]) (m := 60) [.call a1, .call a2] (by kernel_rfl)
theorem Pneg_spec (hG : Steady G) {k : Nat} {a b : Rat} (sa : SzQ k a) (sb : SzQ k b) (hk : k ≤ KB) : Spec Tryz.prog G 85 [FPl a b] (FPl (-a) (-b)) := by
  have a1 := FNeg_spec (G := G) hG sa.isQ hk
  have a2 := FNeg_spec (G := G) hG sb.isQ hk
  exact Spec.of_run hG Tryz.func85 (ro := [1]) (m := 60) [.call a1, .call a2] (by kernel_rfl)
/-- The image of a place. -/
def imgX (t : Rat) (h : Bool) (X a b : Rat) : Rat := rotX t h a b + X
def imgY (t : Rat) (h : Bool) (Y a b : Rat) : Rat := rotY t h a b + Y
theorem SzQ.img {k l : Nat} {t a b X Y : Rat} (s : SzQ k t) (sX : SzQ k X) (sY : SzQ k Y) (sa : SzQ l a) (sb : SzQ l b) (h : Bool) : SzQ (9 * k + 2 * l + 10) (imgX t h X a b) ∧ SzQ (9 * k + 2 * l + 10) (imgY t h Y a b) :=
  ⟨((s.rot sa sb h).1.add sX).mono (by omega), ((s.rot sa sb h).2.add sY).mono (by omega)⟩
theorem PApply_ok (hG : Steady G) {k l : Nat} {t a b X Y : Rat} {h : Bool} (s : SzQ k t) (sX : SzQ k X) (sY : SzQ k Y) (v : h = true → t = 0) (sa : SzQ l a) (sb : SzQ l b) (hk : 9 * k + 2 * l + 10 ≤ KB) :
    Spec Tryz.prog G 24 [FPo t h X Y, FPl a b] (.tup [FPl (imgX t h X a b) (imgY t h Y a b), .lit .nilIface]) := by
  have v1 := PValidF (G := G) hG s sX sY v (by omega)
  have v2 := PPlaceF (G := G) hG sa sb (by omega)
  have r := Prot_spec (G := G) hG s v sa sb (by omega)
  obtain ⟨r1, r2⟩ := s.rot sa sb h
  have ad := Padd_spec (G := G) hG r1 r2 (sX.mono (l := 8 * k + 2 * l + 9) (by omega)) (sY.mono (by omega)) (by omega)
  exact Spec.of_run hG Tryz.func24 (ro := [2, 3]) (m := 60) [.call v1, .call v2, .call r, .call ad] (by kernel_rfl)
theorem PApply_bad1 (hG : Steady G) {k : Nat} {p : RPo} {q : RPl} (hp : p.ok k) (hk : k ≤ KB) (hv : p.valid = false) : Spec Tryz.prog G 24 [p.dat, q.dat] (.tup [FPl 0 0, errno 2]) := by
  have v1 := PValid_spec (G := G) hG hp hk
  rw [hv] at v1
  exact Spec.of_run hG Tryz.func24 (ro := [2, 3]) (m := 60) [.call v1] (by kernel_rfl)
theorem PApply_bad2 (hG : Steady G) {k l : Nat} {p : RPo} {q : RPl} (hp : p.ok k) (hq : q.ok l) (hk : k ≤ KB) (hl : l ≤ KB) (hv : p.valid = true) (hw : q.valid = false) : Spec Tryz.prog G 24 [p.dat, q.dat] (.tup [FPl 0 0, errno 2]) := by
  have v1 := PValid_spec (G := G) hG hp hk
  have v2 := PPlace_spec (G := G) hG hq hl
  rw [hv] at v1
  rw [hw] at v2
  exact Spec.of_run hG Tryz.func24 (ro := [2, 3]) (m := 60) [.call v1, .call v2] (by kernel_rfl)
theorem PFixed_bad (hG : Steady G) {k : Nat} {p : RPo} (hp : p.ok k) (hk : k ≤ KB) (hv : p.valid = false) : Spec Tryz.prog G 48 [p.dat] (.tup [FPl 0 0, errno 2]) := by
  have v1 := PValid_spec (G := G) hG hp hk
  rw [hv] at v1
  exact Spec.of_run hG Tryz.func48 (ro := [1]) (m := 60) [.call v1] (by kernel_rfl)
theorem PFixed_still (hG : Steady G) {k : Nat} {X Y : Rat} (sX : SzQ k X) (sY : SzQ k Y) (hk : k ≤ KB) : Spec Tryz.prog G 48 [FPo 0 false X Y] (.tup [FPl 0 0, errno 8]) := by
  have s0 : SzQ k 0 := sz_zero sX.2.2
  have v1 := PValidF (G := G) hG (h := false) s0 sX sY (fun e => by cases e) hk
  have sg := FSign_spec (G := G) hG s0.isQ hk
  rw [sgn_zero.2 rfl] at sg
  exact Spec.of_run hG Tryz.func48 (ro := [1]) (m := 60) [.call v1, .call sg] (by kernel_rfl)
theorem PFixed_ok (hG : Steady G) {k : Nat} {t X Y : Rat} {h : Bool} (s : SzQ k t) (sX : SzQ k X) (sY : SzQ k Y) (v : h = true → t = 0) (hn : ¬ (h = false ∧ t = 0)) (hk : 16 * k + 40 ≤ KB) :
    Spec Tryz.prog G 48 [FPo t h X Y] (.tup [FPl (fixX t h X Y) (fixY t h X Y), .lit .nilIface]) := by
  have v1 := PValidF (G := G) hG s sX sY v (by omega)
  have dr := PDir_ok (G := G) hG s v (by omega)
  have hd := fix_ne hn
  have sc := s.cosT h
  have ss := s.sinT h
  have sg := FSign_spec (G := G) hG s.isQ (by omega)
  unfold fixX fixY
  generalize cosT t h = c at *
  generalize sinT t h = w at *
  have kk := sz_1.sub sc
  have b1 := FSub_spec (G := G) hG sz_1.isQ sc.isQ (by omega) (by omega)
  have m1 := FMul_spec (G := G) hG sz_2.isQ kk.isQ (by omega) (by omega)
  have m2 := FMul_spec (G := G) hG kk.isQ sX.isQ (by omega) (by omega)
  have m3 := FMul_spec (G := G) hG ss.isQ sY.isQ (by omega) (by omega)
  have b2 := FSub_spec (G := G) hG (kk.mul sX).isQ (ss.mul sY).isQ (by omega) (by omega)
  have d1 := FDiv_spec (G := G) hG ((kk.mul sX).sub (ss.mul sY)).isQ (sz_2.mul kk).isQ (by omega) (by omega) hd
  have m4 := FMul_spec (G := G) hG kk.isQ sY.isQ (by omega) (by omega)
  have m5 := FMul_spec (G := G) hG ss.isQ sX.isQ (by omega) (by omega)
  have a2 := FAdd_spec (G := G) hG (kk.mul sY).isQ (ss.mul sX).isQ (by omega) (by omega)
  have d2 := FDiv_spec (G := G) hG ((kk.mul sY).add (ss.mul sX)).isQ (sz_2.mul kk).isQ (by omega) (by omega) hd
  cases h with
  | true => exact Spec.of_run hG Tryz.func48 (ro := [1]) (m := 60) [.call v1, .call dr, .call (FOne hG), .call b1, .call (FTwo hG), .call m1, .call m2, .call m3, .call b2, .call d1, .call m4, .call m5, .call a2, .call d2] (by kernel_rfl)
  | false =>
    have ht : t ≠ 0 := fun e => hn ⟨rfl, e⟩
    exact Spec.of_run hG Tryz.func48 (ro := [1]) (m := 60) [.call v1, .call sg, .eq 25 (eqB (sgn_eq0 ht)), .call dr, .call (FOne hG), .call b1, .call (FTwo hG), .call m1, .call m2, .call m3, .call b2, .call d1, .call m4, .call m5, .call a2, .call d2] (by kernel_rfl)
end Lw

namespace Lw
open Go Go.RowKit Go.Proofs

variable {G : World → Prop}

theorem sgn_dec (a : Rat) : (sgn a == 0) = decide (a = 0) := by
  rw [Bool.eq_iff_iff, beq_iff_eq, decide_eq_true_eq, sgn_zero]
theorem PZero_spec (hG : Steady G) {k : Nat} {x : D} {a : Rat} (hx : IsQ k x a) (hk : k ≤ KB) : Spec Tryz.prog G 70 [x] (bool (decide (a = 0))) := by
  have s := RFSign_spec (G := G) hG hx hk
  rw [← sgn_dec]
  obtain ⟨p, rfl, -⟩ := hx
  exact Spec.of_run hG Tryz.func70 (ro := [1]) (m := 40) [.call s] (by kernel_rfl)
theorem PRTurn_spec (hG : Steady G) {k : Nat} {r : RTn} (hr : r.ok k) (hk : k ≤ KB) : Spec Tryz.prog G 31 [r.dat] (bool r.valid) := by
  have f1 := RFValid_spec (G := G) hG hr hk
  have z1 := PZero_spec (G := G) hG (Raw.ok.isQ hr) hk
  obtain ⟨t, h⟩ := r
  have f2 : Spec Tryz.prog G 36 [t.dat] (bool t.valid) := f1
  have z2 : Spec Tryz.prog G 70 [t.dat] (bool (decide (t.q = 0))) := z1
  clear f1 z1
  unfold RTn.valid
  cases hv1 : t.valid with
  | false =>
    rw [hv1] at f2
    exact Spec.of_run hG Tryz.func31 (ro := [1]) (m := 40) [.call f2] (by kernel_rfl)
  | true =>
    rw [hv1] at f2
    cases h with
    | false => exact Spec.of_run hG Tryz.func31 (ro := [1]) (m := 40) [.call f2] (by kernel_rfl)
    | true =>
      by_cases h0 : t.q = 0
      · rw [decide_eq_true h0] at z2
        rw [decide_eq_false (not_not_intro h0)]
        exact Spec.of_run hG Tryz.func31 (ro := [1]) (m := 40) [.call f2, .call z2] (by kernel_rfl)
      · rw [decide_eq_false h0] at z2
        rw [decide_eq_true h0]
        exact Spec.of_run hG Tryz.func31 (ro := [1]) (m := 40) [.call f2, .call z2] (by kernel_rfl)
theorem PRPlace_spec (hG : Steady G) {k : Nat} {r : RPl} (hr : r.ok k) (hk : k ≤ KB) : Spec Tryz.prog G 23 [r.dat] (bool r.valid) := by
  have f1 := RFValid_spec (G := G) hG hr.1 hk
  have f2 := RFValid_spec (G := G) hG hr.2 hk
  unfold RPl.valid
  cases h1 : r.x.valid with
  | false =>
    rw [h1] at f1
    exact Spec.of_run hG Tryz.func23 (ro := [1]) (m := 40) [.call f1] (by kernel_rfl)
  | true =>
    rw [h1] at f1
    exact Spec.of_run hG Tryz.func23 (ro := [1]) (m := 40) [.call f1, .call f2] (by kernel_rfl)
theorem PRValid_spec (hG : Steady G) {k : Nat} {r : RPo} (hr : r.ok k) (hk : k ≤ KB) : Spec Tryz.prog G 14 [r.dat] (bool r.valid) := by
  have p1 := PRPlace_spec (G := G) hG hr.2 hk
  have c1 := PRTurn_spec (G := G) hG hr.1 hk
  unfold RPo.valid
  cases h1 : r.u.valid with
  | false =>
    rw [h1] at c1
    exact Spec.of_run hG Tryz.func14 (ro := [1]) (m := 40) [.call c1] (by kernel_rfl)
  | true =>
    rw [h1] at c1
    exact Spec.of_run hG Tryz.func14 (ro := [1]) (m := 40) [.call c1, .call p1] (by kernel_rfl)
theorem PRover_spec (hG : Steady G) {k l : Nat} {x y : D} {a b : Rat} (hx : IsQ k x a) (hy : IsQ l y b) (hk : k ≤ KB) (hl : l ≤ KB) (hb : b ≠ 0) : Spec Tryz.prog G 90 [x, y] (F (a / b)) := by
  have d := RFDiv_spec (G := G) hG hx hy hk hl hb
  obtain ⟨p, rfl, -⟩ := hx
  obtain ⟨q, rfl, -⟩ := hy
  exact Spec.of_run hG Tryz.func90 (ro := [2, 3]) (m := 40) [.call d] (by kernel_rfl)
theorem ROne (hG : Steady G) : Spec Tryz.prog G 78 [int 1] (F 1) := RFOf_spec hG (i := 1) (by omega) (by omega)
theorem RTwo (hG : Steady G) : Spec Tryz.prog G 78 [int 2] (F 2) := RFOf_spec hG (i := 2) (by omega) (by omega)
theorem RMinus (hG : Steady G) : Spec Tryz.prog G 78 [int (-1)] (F (-1)) := RFOf_spec hG (i := -1) (by omega) (by omega)
theorem PRdir_spec (hG : Steady G) {k : Nat} {t : Rat} {h : Bool} (s : SzQ k t) (hk : 4 * k + 4 ≤ KB) : Spec Tryz.prog G 110 [FTn t h] (.tup [F (cosT t h), F (sinT t h)]) := by
  cases h with
  | true => exact Spec.of_run hG Tryz.func110 (ro := [1]) (m := 40) [.call (RMinus hG)] (by kernel_rfl)
  | false =>
    have ml := RFMul_spec (G := G) hG s.isQ s.isQ (by omega) (by omega)
    have ad := RFAdd_spec (G := G) hG sz_1.isQ (s.mul s).isQ (by omega) (by omega)
    have sb := RFSub_spec (G := G) hG sz_1.isQ (s.mul s).isQ (by omega) (by omega)
    have tt := RFAdd_spec (G := G) hG s.isQ s.isQ (by omega) (by omega)
    have o1 := PRover_spec (G := G) hG (sz_1.sub (s.mul s)).isQ (sz_1.add (s.mul s)).isQ (by omega) (by omega) (dnT_ne t)
    have o2 := PRover_spec (G := G) hG (s.add s).isQ (sz_1.add (s.mul s)).isQ (by omega) (by omega) (dnT_ne t)
    exact Spec.of_run hG Tryz.func110 (ro := [1]) (m := 40) [.call (ROne hG), .call ml, .call ad, .call sb, .call o1, .call tt, .call o2] (by kernel_rfl)
theorem PRrot_spec (hG : Steady G) {k l : Nat} {t a b : Rat} {h : Bool} (s : SzQ k t) (sa : SzQ l a) (sb : SzQ l b) (hk : 8 * k + 2 * l + 9 ≤ KB) :
    Spec Tryz.prog G 72 [FTn t h, FPl a b] (FPl (rotX t h a b) (rotY t h a b)) := by
  have m1 := RFMul_spec (G := G) hG (s.cosT h).isQ sa.isQ (by omega) (by omega)
  have m2 := RFMul_spec (G := G) hG (s.sinT h).isQ sb.isQ (by omega) (by omega)
  have b1 := RFSub_spec (G := G) hG ((s.cosT h).mul sa).isQ ((s.sinT h).mul sb).isQ (by omega) (by omega)
  have m3 := RFMul_spec (G := G) hG (s.sinT h).isQ sa.isQ (by omega) (by omega)
  have m4 := RFMul_spec (G := G) hG (s.cosT h).isQ sb.isQ (by omega) (by omega)
  have a1 := RFAdd_spec (G := G) hG ((s.sinT h).mul sa).isQ ((s.cosT h).mul sb).isQ (by omega) (by omega)
  exact Spec.of_run hG Tryz.func72 (ro := [2, 3]) (m := 60) [.call (PRdir_spec (h := h) hG s (by omega)), .call m1, .call m2, .call b1, .call m3, .call m4, .call a1] (by kernel_rfl)
theorem PRplus_spec (hG : Steady G) {k : Nat} {a b x y : Rat} (sa : SzQ k a) (sb : SzQ k b) (sx : SzQ k x) (sy : SzQ k y) (hk : k ≤ KB) : Spec Tryz.prog G 111 [FPl a b, FPl x y] (FPl (a + x) (b + y)) := by
  have a1 := RFAdd_spec (G := G) hG sa.isQ sx.isQ hk hk
  have a2 := RFAdd_spec (G := G) hG sb.isQ sy.isQ hk hk
  exact Spec.of_run hG Tryz.func111 (ro := [2, 3]) (m := 60) [.call a1, .call a2] (by kernel_rfl)
theorem PRApply_spec (hG : Steady G) {k l : Nat} {t a b X Y : Rat} {h : Bool} (s : SzQ k t) (sX : SzQ k X) (sY : SzQ k Y) (sa : SzQ l a) (sb : SzQ l b) (hk : 9 * k + 2 * l + 10 ≤ KB) :
    Spec Tryz.prog G 73 [FPo t h X Y, FPl a b] (FPl (imgX t h X a b) (imgY t h Y a b)) := by
  have r := PRrot_spec (G := G) (h := h) hG s sa sb (by omega)
  obtain ⟨r1, r2⟩ := s.rot sa sb h
  have ad := PRplus_spec (G := G) hG r1 r2 (sX.mono (l := 8 * k + 2 * l + 9) (by omega)) (sY.mono (by omega)) (by omega)
  exact Spec.of_run hG Tryz.func73 (ro := [1, 2, 3]) (m := 60) [.call r, .call ad] (by kernel_rfl)
theorem PRStill_spec (hG : Steady G) {k : Nat} {t : Rat} {h : Bool} (s : SzQ k t) (hk : k ≤ KB) : Spec Tryz.prog G 50 [FTn t h] (bool (!h && decide (t = 0))) := by
  have z := PZero_spec (G := G) hG s.isQ hk
  cases h with
  | true => exact Spec.of_run hG Tryz.func50 (ro := [1]) (m := 60) [] (by kernel_rfl)
  | false => exact Spec.of_run hG Tryz.func50 (ro := [1]) (m := 60) [.call z] (by kernel_rfl)
theorem SzQ.cotT {k : Nat} {t : Rat} (s : SzQ k t) (h : Bool) : SzQ (k + 2) (cotT t h) := by
  cases h with
  | true => exact sz_zero (by omega)
  | false => exact ((sz_1.div sz_2).div s).mono (by omega)
theorem PRFixed_spec (hG : Steady G) {k : Nat} {t X Y : Rat} {h : Bool} (s : SzQ k t) (sX : SzQ k X) (sY : SzQ k Y) (hn : ¬ (h = false ∧ t = 0)) (hk : 4 * k + 10 ≤ KB) :
    Spec Tryz.prog G 51 [FPo t h X Y] (FPl (1 / 2 * X - cotT t h * Y) (1 / 2 * Y + cotT t h * X)) := by
  have o1 := PRover_spec (G := G) hG sz_1.isQ sz_2.isQ (by omega) (by omega) (by decide +kernel)
  have sh := sz_1.div sz_2
  have sk := s.cotT h
  have m1 := RFMul_spec (G := G) hG sh.isQ sX.isQ (by omega) (by omega)
  have m2 := RFMul_spec (G := G) hG sk.isQ sY.isQ (by omega) (by omega)
  have b1 := RFSub_spec (G := G) hG (sh.mul sX).isQ (sk.mul sY).isQ (by omega) (by omega)
  have m3 := RFMul_spec (G := G) hG sh.isQ sY.isQ (by omega) (by omega)
  have m4 := RFMul_spec (G := G) hG sk.isQ sX.isQ (by omega) (by omega)
  have a1 := RFAdd_spec (G := G) hG (sh.mul sY).isQ (sk.mul sX).isQ (by omega) (by omega)
  cases h with
  | true => exact Spec.of_run hG Tryz.func51 (ro := [1]) (m := 60) [.call (ROne hG), .call (RTwo hG), .call o1, .call m1, .call m2, .call b1, .call m3, .call m4, .call a1] (by kernel_rfl)
  | false =>
    have ht : t ≠ 0 := fun e => hn ⟨rfl, e⟩
    have o2 := PRover_spec (G := G) hG sh.isQ s.isQ (by omega) (by omega) ht
    exact Spec.of_run hG Tryz.func51 (ro := [1]) (m := 60) [.call (ROne hG), .call (RTwo hG), .call o1, .call o2, .call m1, .call m2, .call b1, .call m3, .call m4, .call a1] (by kernel_rfl)
end Lw

namespace Lw
open Go Go.RowKit Go.Proofs

variable {G : World → Prop}

theorem neg_valid {t : Rat} {h : Bool} (v : h = true → t = 0) : h = true → -t = 0 := fun e => by rw [v e]; rfl
theorem PThen_ok (hG : Steady G) {k l : Nat} {t u X Y X' Y' : Rat} {h g : Bool} (s : SzQ k t) (sX : SzQ k X) (sY : SzQ k Y) (s' : SzQ l u) (sX' : SzQ l X') (sY' : SzQ l Y') (v : h = true → t = 0) (v' : g = true → u = 0) (hk : 9 * l + 2 * k + 10 ≤ KB) :
    Spec Tryz.prog G 45 [FPo t h X Y, FPo u g X' Y'] (.tup [FPo (addTt t h u g) (addTh t h u g) (imgX u g X' X Y) (imgY u g Y' X Y), .lit .nilIface]) := by
  have v1 := PValidF (G := G) hG s sX sY v (by omega)
  have v2 := PValidF (G := G) hG s' sX' sY' v' (by omega)
  have ad := TAdd_spec (G := G) hG s s' v v' (by omega)
  have ap := PApply_ok (G := G) hG s' sX' sY' v' sX sY (by omega)
  exact Spec.of_run hG Tryz.func45 (ro := [2, 3]) (m := 60) [.call v1, .call v2, .call ad, .call ap] (by kernel_rfl)
theorem PThen_bad1 (hG : Steady G) {k : Nat} {p q : RPo} (hp : p.ok k) (hk : k ≤ KB) (hv : p.valid = false) : Spec Tryz.prog G 45 [p.dat, q.dat] (.tup [FPo 0 false 0 0, errno 2]) := by
  have v1 := PValid_spec (G := G) hG hp hk
  rw [hv] at v1
  exact Spec.of_run hG Tryz.func45 (ro := [2, 3]) (m := 60) [.call v1] (by kernel_rfl)
theorem PThen_bad2 (hG : Steady G) {k : Nat} {p q : RPo} (hp : p.ok k) (hq : q.ok k) (hk : k ≤ KB) (hv : p.valid = true) (hw : q.valid = false) : Spec Tryz.prog G 45 [p.dat, q.dat] (.tup [FPo 0 false 0 0, errno 2]) := by
  have v1 := PValid_spec (G := G) hG hp hk
  have v2 := PValid_spec (G := G) hG hq hk
  rw [hv] at v1
  rw [hw] at v2
  exact Spec.of_run hG Tryz.func45 (ro := [2, 3]) (m := 60) [.call v1, .call v2] (by kernel_rfl)
theorem PInv_ok (hG : Steady G) {k : Nat} {t X Y : Rat} {h : Bool} (s : SzQ k t) (sX : SzQ k X) (sY : SzQ k Y) (v : h = true → t = 0) (hk : 10 * k + 10 ≤ KB) :
    Spec Tryz.prog G 43 [FPo t h X Y] (.tup [FPo (-t) h (rotX (-t) h (-X) (-Y)) (rotY (-t) h (-X) (-Y)), .lit .nilIface]) := by
  have v1 := PValidF (G := G) hG s sX sY v (by omega)
  have ng := TNeg_spec (G := G) hG s v (by omega)
  have np := Pneg_spec (G := G) hG sX sY (by omega)
  have ro := Prot_spec (G := G) hG s.neg (neg_valid v) sX.neg sY.neg (by omega)
  exact Spec.of_run hG Tryz.func43 (ro := [1]) (m := 60) [.call v1, .call ng, .call np, .call ro] (by kernel_rfl)
theorem PInv_bad (hG : Steady G) {k : Nat} {p : RPo} (hp : p.ok k) (hk : k ≤ KB) (hv : p.valid = false) : Spec Tryz.prog G 43 [p.dat] (.tup [FPo 0 false 0 0, errno 2]) := by
  have v1 := PValid_spec (G := G) hG hp hk
  rw [hv] at v1
  exact Spec.of_run hG Tryz.func43 (ro := [1]) (m := 60) [.call v1] (by kernel_rfl)
/-- From one displacement to another one. -/
def betT (t : Rat) (h : Bool) (u : Rat) (g : Bool) : Rat := addTt (-t) h u g
def betH (t : Rat) (h : Bool) (u : Rat) (g : Bool) : Bool := addTh (-t) h u g
def betX (t : Rat) (h : Bool) (X Y u : Rat) (g : Bool) (X' : Rat) : Rat := imgX u g X' (rotX (-t) h (-X) (-Y)) (rotY (-t) h (-X) (-Y))
def betY (t : Rat) (h : Bool) (X Y u : Rat) (g : Bool) (Y' : Rat) : Rat := imgY u g Y' (rotX (-t) h (-X) (-Y)) (rotY (-t) h (-X) (-Y))
theorem PBet_ok (hG : Steady G) {k l : Nat} {t u X Y X' Y' : Rat} {h g : Bool} (s : SzQ k t) (sX : SzQ k X) (sY : SzQ k Y) (s' : SzQ l u) (sX' : SzQ l X') (sY' : SzQ l Y') (v : h = true → t = 0) (v' : g = true → u = 0) (hk : 9 * l + 20 * k + 30 ≤ KB) :
    Spec Tryz.prog G 41 [FPo t h X Y, FPo u g X' Y'] (.tup [FPo (betT t h u g) (betH t h u g) (betX t h X Y u g X') (betY t h X Y u g Y'), .lit .nilIface]) := by
  have v1 := PValidF (G := G) hG s sX sY v (by omega)
  have v2 := PValidF (G := G) hG s' sX' sY' v' (by omega)
  have iv := PInv_ok (G := G) hG s sX sY v (by omega)
  obtain ⟨r1, r2⟩ := s.neg.rot sX.neg sY.neg h
  have th := PThen_ok (G := G) hG (s.neg.mono (l := 8 * k + 2 * k + 9) (by omega)) r1 r2 s' sX' sY' (neg_valid v) v' (by omega)
  exact Spec.of_run hG Tryz.func41 (ro := [2, 3]) (m := 60) [.call v1, .call v2, .call iv, .call th] (by kernel_rfl)
theorem PBet_bad1 (hG : Steady G) {k : Nat} {p q : RPo} (hp : p.ok k) (hk : k ≤ KB) (hv : p.valid = false) : Spec Tryz.prog G 41 [p.dat, q.dat] (.tup [FPo 0 false 0 0, errno 2]) := by
  have v1 := PValid_spec (G := G) hG hp hk
  rw [hv] at v1
  exact Spec.of_run hG Tryz.func41 (ro := [2, 3]) (m := 60) [.call v1] (by kernel_rfl)
theorem PBet_bad2 (hG : Steady G) {k : Nat} {p q : RPo} (hp : p.ok k) (hq : q.ok k) (hk : k ≤ KB) (hv : p.valid = true) (hw : q.valid = false) : Spec Tryz.prog G 41 [p.dat, q.dat] (.tup [FPo 0 false 0 0, errno 2]) := by
  have v1 := PValid_spec (G := G) hG hp hk
  have v2 := PValid_spec (G := G) hG hq hk
  rw [hv] at v1
  rw [hw] at v2
  exact Spec.of_run hG Tryz.func41 (ro := [2, 3]) (m := 60) [.call v1, .call v2] (by kernel_rfl)

/-! ### The reference -/
theorem PRsum_ht (hG : Steady G) {k : Nat} {u : Rat} (s : SzQ k u) (hk : k + 1 ≤ KB) : Spec Tryz.prog G 93 [FTn 0 true, FTn u false] (FTn (addTt 0 true u false) (addTh 0 true u false)) := by
  have z := PZero_spec (G := G) hG s.isQ (by omega)
  rw [addTt_ht, addTh_ht]
  by_cases h0 : u = 0
  · rw [if_pos h0, decide_eq_true h0]
    rw [decide_eq_true h0] at z
    exact Spec.of_run hG Tryz.func93 (ro := []) (m := 60) [.call z] (by kernel_rfl)
  · rw [if_neg h0, decide_eq_false h0]
    rw [decide_eq_false h0] at z
    have o := PRover_spec (G := G) hG sz_m1.isQ s.isQ (by omega) (by omega) h0
    exact Spec.of_run hG Tryz.func93 (ro := []) (m := 60) [.call z, .call (RMinus hG), .call o] (by kernel_rfl)
theorem PRsum_th (hG : Steady G) {k : Nat} {u : Rat} (s : SzQ k u) (hk : k + 1 ≤ KB) : Spec Tryz.prog G 93 [FTn u false, FTn 0 true] (FTn (addTt u false 0 true) (addTh u false 0 true)) := by
  have z := PZero_spec (G := G) hG s.isQ (by omega)
  rw [addTt_th, addTh_th]
  by_cases h0 : u = 0
  · rw [if_pos h0, decide_eq_true h0]
    rw [decide_eq_true h0] at z
    exact Spec.of_run hG Tryz.func93 (ro := []) (m := 60) [.call z] (by kernel_rfl)
  · rw [if_neg h0, decide_eq_false h0]
    rw [decide_eq_false h0] at z
    have o := PRover_spec (G := G) hG sz_m1.isQ s.isQ (by omega) (by omega) h0
    exact Spec.of_run hG Tryz.func93 (ro := []) (m := 60) [.call z, .call (RMinus hG), .call o] (by kernel_rfl)
theorem PRsum_spec (hG : Steady G) {k l : Nat} {t u : Rat} {h g : Bool} (s : SzQ k t) (s' : SzQ l u) (vt : h = true → t = 0) (vu : g = true → u = 0) (hk : k + l + 2 ≤ KB) :
    Spec Tryz.prog G 93 [FTn t h, FTn u g] (FTn (addTt t h u g) (addTh t h u g)) := by
  cases h with
  | true =>
    cases vt rfl
    cases g with
    | true =>
      cases vu rfl
      exact Spec.of_run hG Tryz.func93 (ro := []) (m := 60) [] (by kernel_rfl)
    | false => exact PRsum_ht hG s' (by omega)
  | false =>
    cases g with
    | true =>
      cases vu rfl
      exact PRsum_th hG s (by omega)
    | false =>
      have ml := RFMul_spec (G := G) hG s.isQ s'.isQ (by omega) (by omega)
      have sb := RFSub_spec (G := G) hG sz_1.isQ (s.mul s').isQ (by omega) (by omega)
      have z := PZero_spec (G := G) hG (sz_1.sub (s.mul s')).isQ (by omega)
      have ad := RFAdd_spec (G := G) hG s.isQ s'.isQ (by omega) (by omega)
      rw [addTt_tt, addTh_tt]
      by_cases h0 : 1 - t * u = 0
      · rw [if_pos h0, decide_eq_true h0]
        rw [decide_eq_true h0] at z
        exact Spec.of_run hG Tryz.func93 (ro := []) (m := 60) [.call (ROne hG), .call ml, .call sb, .call z] (by kernel_rfl)
      · rw [if_neg h0, decide_eq_false h0]
        rw [decide_eq_false h0] at z
        have o := PRover_spec (G := G) hG (s.add s').isQ (sz_1.sub (s.mul s')).isQ (by omega) (by omega) h0
        exact Spec.of_run hG Tryz.func93 (ro := []) (m := 60) [.call (ROne hG), .call ml, .call sb, .call z, .call ad, .call o] (by kernel_rfl)
theorem PRback_spec (hG : Steady G) {k : Nat} {t : Rat} {h : Bool} (s : SzQ k t) (hk : k ≤ KB) : Spec Tryz.prog G 94 [FTn t h] (FTn (-t) h) := by
  have n := RFNeg_spec (G := G) hG s.isQ hk
  exact Spec.of_run hG Tryz.func94 (ro := [1]) (m := 40) [.call n] (by kernel_rfl)
theorem PRless_spec (hG : Steady G) {k : Nat} {a b x y : Rat} (sa : SzQ k a) (sb : SzQ k b) (sx : SzQ k x) (sy : SzQ k y) (hk : k ≤ KB) : Spec Tryz.prog G 71 [FPl a b, FPl x y] (FPl (a - x) (b - y)) := by
  have a1 := RFSub_spec (G := G) hG sa.isQ sx.isQ hk hk
  have a2 := RFSub_spec (G := G) hG sb.isQ sy.isQ hk hk
  exact Spec.of_run hG Tryz.func71 (ro := [2, 3]) (m := 60) [.call a1, .call a2] (by kernel_rfl)
theorem PRThen_spec (hG : Steady G) {k l : Nat} {t u X Y X' Y' : Rat} {h g : Bool} (s : SzQ k t) (sX : SzQ k X) (sY : SzQ k Y) (s' : SzQ l u) (sX' : SzQ l X') (sY' : SzQ l Y') (v : h = true → t = 0) (v' : g = true → u = 0) (hk : 9 * l + 2 * k + 10 ≤ KB) :
    Spec Tryz.prog G 52 [FPo t h X Y, FPo u g X' Y'] (FPo (addTt t h u g) (addTh t h u g) (imgX u g X' X Y) (imgY u g Y' X Y)) := by
  have ad := PRsum_spec (G := G) hG s s' v v' (by omega)
  have ap := PRApply_spec (G := G) (h := g) hG s' sX' sY' sX sY (by omega)
  exact Spec.of_run hG Tryz.func52 (ro := [2, 3]) (m := 60) [.call ad, .call ap] (by kernel_rfl)
theorem PRInv_spec (hG : Steady G) {k : Nat} {t X Y : Rat} {h : Bool} (s : SzQ k t) (sX : SzQ k X) (sY : SzQ k Y) (hk : 10 * k + 20 ≤ KB) :
    Spec Tryz.prog G 53 [FPo t h X Y] (FPo (-t) h (rotX (-t) h (-X) (-Y)) (rotY (-t) h (-X) (-Y))) := by
  have bk := PRback_spec (G := G) (h := h) hG s (by omega)
  have z : SzQ k 0 := sz_zero s.2.2
  have ls := PRless_spec (G := G) hG z z sX sY (by omega)
  rw [show (0 : Rat) - X = -X by grind, show (0 : Rat) - Y = -Y by grind] at ls
  have ro := PRrot_spec (G := G) (h := h) hG s.neg sX.neg sY.neg (by omega)
  exact Spec.of_run hG Tryz.func53 (ro := [1]) (m := 60) [.call bk, .call ls, .call ro] (by kernel_rfl)
theorem PRBet_spec (hG : Steady G) {k l : Nat} {t u X Y X' Y' : Rat} {h g : Bool} (s : SzQ k t) (sX : SzQ k X) (sY : SzQ k Y) (s' : SzQ l u) (sX' : SzQ l X') (sY' : SzQ l Y') (v : h = true → t = 0) (v' : g = true → u = 0) (hk : 9 * l + 20 * k + 30 ≤ KB) :
    Spec Tryz.prog G 19 [FPo t h X Y, FPo u g X' Y'] (FPo (betT t h u g) (betH t h u g) (betX t h X Y u g X') (betY t h X Y u g Y')) := by
  have iv := PRInv_spec (G := G) (h := h) hG s sX sY (by omega)
  obtain ⟨r1, r2⟩ := s.neg.rot sX.neg sY.neg h
  have th := PRThen_spec (G := G) hG (s.neg.mono (l := 8 * k + 2 * k + 9) (by omega)) r1 r2 s' sX' sY' (neg_valid v) v' (by omega)
  exact Spec.of_run hG Tryz.func19 (ro := [2, 3]) (m := 60) [.call iv, .call th] (by kernel_rfl)
end Lw
