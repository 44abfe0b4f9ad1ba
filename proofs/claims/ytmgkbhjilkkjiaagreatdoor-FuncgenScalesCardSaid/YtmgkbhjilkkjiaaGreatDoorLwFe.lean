/- Ratios and generators of three pairs: program and reference, run. No condition. -/
import Derived.Test.YtmgkbhjilkkjiaaGreatDoorLwFd
namespace Lw
open Go Go.RowKit Go.Proofs

variable {G : World → Prop}

theorem GDet (hG : Steady G) {k : Nat} {a b c d : Rat} (sa : SzQ k a) (sb : SzQ k b) (sc : SzQ k c) (sd : SzQ k d) (hk : 4 * k + 1 ≤ KB) : Spec Tryz.prog G 48 [F a, F b, F c, F d] (F (det2 a b c d)) := by
  have m1 := FMul_spec (G := G) hG sa.isQ sd.isQ (by omega) (by omega)
  have m2 := FMul_spec (G := G) hG sb.isQ sc.isQ (by omega) (by omega)
  have s := FSub_spec (G := G) hG (sa.mul sd).isQ (sb.mul sc).isQ (by omega) (by omega)
  exact Spec.of_run hG Tryz.func48 (ro := [4, 5, 6, 7]) (m := 60) [.call m1, .call m2, .call s] (by kernel_rfl)
theorem SzQ.det2 {k : Nat} {a b c d : Rat} (sa : SzQ k a) (sb : SzQ k b) (sc : SzQ k c) (sd : SzQ k d) : SzQ (4 * k + 1) (Lw.det2 a b c d) := ((sa.mul sd).sub (sb.mul sc)).mono (by omega)
/-- The sizes of what comes of three equations. -/
structure Sizes (x y z : Rw) : Prop where
  n : SzQ 397 (Rw.n x y z)
  n1 : SzQ 397 (Rw.n1 x y z)
  n2 : SzQ 397 (Rw.n2 x y z)
  k1 : SzQ 794 (Rw.k1 x y z)
  k2 : SzQ 794 (Rw.k2 x y z)
  k3 : SzQ 1737 (Rw.k3 x y z)
theorem sizes_of {x y z : Rw} (hx : x.ok 49) (hy : y.ok 49) (hz : z.ok 49) : Sizes x y z := by
  have a := hy.1.sub hx.1
  have b := hy.2.1.sub hx.2.1
  have c := hz.1.sub hx.1
  have d := hz.2.1.sub hx.2.1
  have u := hy.2.2.sub hx.2.2
  have v := hz.2.2.sub hx.2.2
  have n : SzQ 397 (Rw.n x y z) := SzQ.det2 a b c d
  have n1 : SzQ 397 (Rw.n1 x y z) := SzQ.det2 u b v d
  have n2 : SzQ 397 (Rw.n2 x y z) := SzQ.det2 a u c v
  have k1 : SzQ 794 (Rw.k1 x y z) := n1.div n
  have k2 : SzQ 794 (Rw.k2 x y z) := n2.div n
  exact ⟨n, n1, n2, k1, k2, hx.2.2.sub ((hx.1.mul k1).add (hx.2.1.mul k2))⟩
theorem cQ_len (q : Rat) : (cQ q).length = 3 := rfl
/-- Three valid pairs. -/
def three3 (u v w : Vp) : List RPr := [u.raw, v.raw, w.raw]
theorem three_code {k : Nat} {u v w : Vp} (hu : u.ok k) (hv : v.ok k) (hw : w.ok k) : threeCode (three3 u v w) = 0 := by
  have h : allValid (three3 u v w) := by
    intro r hr
    simp [three3] at hr
    rcases hr with rfl | rfl | rfl
    · exact Vp.raw_valid hu
    · exact Vp.raw_valid hv
    · exact Vp.raw_valid hw
  unfold threeCode
  rw [if_neg (by simp [three3]), if_pos h]
theorem three_ok {k : Nat} {u v w : Vp} (hu : u.ok k) (hv : v.ok k) (hw : w.ok k) : ∀ r ∈ three3 u v w, r.ok k := by
  intro r hr
  simp [three3] at hr
  rcases hr with rfl | rfl | rfl
  · exact Vp.raw_ok hu
  · exact Vp.raw_ok hv
  · exact Vp.raw_ok hw
def nOf (u v w : Vp) : Rat := Rw.n u.pr.row v.pr.row w.pr.row
def kk1 (u v w : Vp) : Rat := Rw.k1 u.pr.row v.pr.row w.pr.row
def kk2 (u v w : Vp) : Rat := Rw.k2 u.pr.row v.pr.row w.pr.row
def kk3 (u v w : Vp) : Rat := Rw.k3 u.pr.row v.pr.row w.pr.row
theorem GRatios_zero (hG : Steady G) {u v w : Vp} (hu : u.ok 2) (hv : v.ok 2) (hw : w.ok 2) (hn : nOf u v w = 0) : Spec Tryz.prog G 12 [rowS RPr.cells (three3 u v w)] (.tup [rowS cQ [], errno 15]) := by
  have kb := KB_eq
  have ck := GThree (G := G) hG (by simp [three3]) (three_ok hu hv hw) (by omega)
  rw [three_code hu hv hw] at ck
  have e1 := Equation_ok (G := G) hG hu (by omega)
  have e2 := Equation_ok (G := G) hG hv (by omega)
  have e3 := Equation_ok (G := G) hG hw (by omega)
  have hx := Vp.row_ok hu
  have hy := Vp.row_ok hv
  have hz := Vp.row_ok hw
  have sa := FSub_spec (G := G) hG hy.1.isQ hx.1.isQ (by omega) (by omega)
  have sb := FSub_spec (G := G) hG hy.2.1.isQ hx.2.1.isQ (by omega) (by omega)
  have sc := FSub_spec (G := G) hG hz.1.isQ hx.1.isQ (by omega) (by omega)
  have sd := FSub_spec (G := G) hG hz.2.1.isQ hx.2.1.isQ (by omega) (by omega)
  have su := FSub_spec (G := G) hG hy.2.2.isQ hx.2.2.isQ (by omega) (by omega)
  have sv := FSub_spec (G := G) hG hz.2.2.isQ hx.2.2.isQ (by omega) (by omega)
  have dn := GDet (G := G) hG (hy.1.sub hx.1) (hy.2.1.sub hx.2.1) (hz.1.sub hx.1) (hz.2.1.sub hx.2.1) (by omega)
  have sg := FSign_spec (G := G) hG (sizes_of hx hy hz).n.isQ (by omega)
  exact Spec.of_run hG Tryz.func12 (ro := []) (m := 60)
    [.call ck, .call e1, .call e2, .call e3, .call sa, .call sb, .call sc, .call sd, .call su, .call sv, .call dn, .call sg, .eq 106 (Lw.eqB (beq_iff_eq.2 (sgn_zero.2 hn)))] (by kernel_rfl)
theorem GRatios_ok (hG : Steady G) {u v w : Vp} (hu : u.ok 2) (hv : v.ok 2) (hw : w.ok 2) (hn : ¬ nOf u v w = 0) : Spec Tryz.prog G 12 [rowS RPr.cells (three3 u v w)] (.tup [rowS cQ [kk1 u v w, kk2 u v w, kk3 u v w], .lit .nilIface]) := by
  have kb := KB_eq
  have ck := GThree (G := G) hG (by simp [three3]) (three_ok hu hv hw) (by omega)
  rw [three_code hu hv hw] at ck
  have e1 := Equation_ok (G := G) hG hu (by omega)
  have e2 := Equation_ok (G := G) hG hv (by omega)
  have e3 := Equation_ok (G := G) hG hw (by omega)
  have hx := Vp.row_ok hu
  have hy := Vp.row_ok hv
  have hz := Vp.row_ok hw
  have a := hy.1.sub hx.1
  have b := hy.2.1.sub hx.2.1
  have c := hz.1.sub hx.1
  have d := hz.2.1.sub hx.2.1
  have p := hy.2.2.sub hx.2.2
  have q := hz.2.2.sub hx.2.2
  have sa := FSub_spec (G := G) hG hy.1.isQ hx.1.isQ (by omega) (by omega)
  have sb := FSub_spec (G := G) hG hy.2.1.isQ hx.2.1.isQ (by omega) (by omega)
  have sc := FSub_spec (G := G) hG hz.1.isQ hx.1.isQ (by omega) (by omega)
  have sd := FSub_spec (G := G) hG hz.2.1.isQ hx.2.1.isQ (by omega) (by omega)
  have su := FSub_spec (G := G) hG hy.2.2.isQ hx.2.2.isQ (by omega) (by omega)
  have sv := FSub_spec (G := G) hG hz.2.2.isQ hx.2.2.isQ (by omega) (by omega)
  have dn := GDet (G := G) hG a b c d (by omega)
  have sz := sizes_of hx hy hz
  have sg := FSign_spec (G := G) hG sz.n.isQ (by omega)
  have d1 := GDet (G := G) hG p b q d (by omega)
  have v1 := FDiv_spec (G := G) hG sz.n1.isQ sz.n.isQ (by omega) (by omega) hn
  have d2 := GDet (G := G) hG a p c q (by omega)
  have v2 := FDiv_spec (G := G) hG sz.n2.isQ sz.n.isQ (by omega) (by omega) hn
  have m1 := FMul_spec (G := G) hG hx.1.isQ sz.k1.isQ (by omega) (by omega)
  have m2 := FMul_spec (G := G) hG hx.2.1.isQ sz.k2.isQ (by omega) (by omega)
  have ad := FAdd_spec (G := G) hG (hx.1.mul sz.k1).isQ (hx.2.1.mul sz.k2).isQ (by omega) (by omega)
  have sb3 := FSub_spec (G := G) hG hx.2.2.isQ ((hx.1.mul sz.k1).add (hx.2.1.mul sz.k2)).isQ (by omega) (by omega)
  exact Spec.of_run hG Tryz.func12 (ro := []) (m := 60)
    [.call ck, .call e1, .call e2, .call e3, .call sa, .call sb, .call sc, .call sd, .call su, .call sv, .call dn, .call sg, .eq 106 (Lw.eqB (sgn_eq0 hn)), .call d1, .call v1, .call d2, .call v2, .call m1, .call m2, .call ad, .call sb3] (by kernel_rfl)
theorem GRatios_bad (hG : Steady G) {l : List RPr} (hb : l.length ≤ 9223372036854775807) {k : Nat} (hk : ∀ r ∈ l, r.ok k) (hkb : k ≤ KB) (hc : ¬ threeCode l = 0) : Spec Tryz.prog G 12 [rowS RPr.cells l] (.tup [rowS cQ [], errno (threeCode l)]) := by
  have ck := GThree (G := G) hG hb hk hkb
  unfold errOf at ck
  rw [if_neg hc] at ck
  exact Spec.of_run hG Tryz.func12 (ro := []) (m := 60) [.call ck] (by kernel_rfl)

/-! ### Make -/
def Gn.none : Gn := ⟨0, 0, 0, 0⟩
def made (g : Rat) (u v w : Vp) : Gn := genOf g (kk1 u v w) (kk2 u v w) (kk3 u v w)
theorem made_ok {n : Nat} {g : Rat} (hg : SzQ n g) {u v w : Vp} (hu : u.ok 2) (hv : v.ok 2) (hw : w.ok 2) (hn : n ≤ 8) : (made g u v w).ok 8200 := by
  have sz := sizes_of (Vp.row_ok hu) (Vp.row_ok hv) (Vp.row_ok hw)
  have g8 := hg.mono hn
  have a := g8.div sz.k1
  have c := g8.div sz.k2
  exact ⟨g8.mono (by omega), a.mono (by omega), c.mono (by omega), (((g8.mul g8).add ((a.mul a).add (c.mul c))).sub ((sz_2.mul (a.mul c)).mul sz.k3)).mono (by omega)⟩
theorem GMake_bad (hG : Steady G) {l : List RPr} {g : Raw} (hb : l.length ≤ 9223372036854775807) {k : Nat} (hk : ∀ r ∈ l, r.ok k) (hkb : k ≤ KB) (hc : ¬ threeCode l = 0) : Spec Tryz.prog G 13 [rowS RPr.cells l, g.dat] (.tup [Gn.none.dat, errno (threeCode l)]) := by
  have ck := GThree (G := G) hG hb hk hkb
  unfold errOf at ck
  rw [if_neg hc] at ck
  exact Spec.of_run hG Tryz.func13 (ro := [3]) (m := 60) [.call ck] (by kernel_rfl)
section
variable {u v w : Vp} (hu : u.ok 2) (hv : v.ok 2) (hw : w.ok 2)
include hu hv hw
theorem GMake_form (hG : Steady G) {g : Raw} {n : Nat} (hg : g.ok n) (hn : n ≤ KB) (h : g.valid = false) : Spec Tryz.prog G 13 [rowS RPr.cells (three3 u v w), g.dat] (.tup [Gn.none.dat, errno 2]) := by
  have kb := KB_eq
  have ck := GThree (G := G) hG (by simp [three3]) (three_ok hu hv hw) (by omega)
  rw [three_code hu hv hw] at ck
  have vl := FValid_spec (G := G) hG hg hn
  rw [h] at vl
  exact Spec.of_run hG Tryz.func13 (ro := [3]) (m := 60) [.call ck, .call vl] (by kernel_rfl)
omit hu hv hw in
theorem FValidF (hG : Steady G) {n : Nat} {q : Rat} (s : SzQ n q) (hn : n ≤ KB) : Spec Tryz.prog G 50 [F q] (bool true) := by
  have := FValid_spec (G := G) hG s.ok hn
  rw [rawOf_valid] at this
  exact this
theorem GMake_range (hG : Steady G) {g : Rat} {n : Nat} (hg : SzQ n g) (hn : n ≤ KB) (h : g ≤ 0) : Spec Tryz.prog G 13 [rowS RPr.cells (three3 u v w), F g] (.tup [Gn.none.dat, errno 3]) := by
  have kb := KB_eq
  have ck := GThree (G := G) hG (by simp [three3]) (three_ok hu hv hw) (by omega)
  rw [three_code hu hv hw] at ck
  have vl := FValidF (G := G) hG hg hn
  have sg := FSign_spec (G := G) hG hg.isQ hn
  exact Spec.of_run hG Tryz.func13 (ro := [3]) (m := 60) [.call ck, .call vl, .call sg, .eq 23 (Lw.eqB (sgn_le_true h))] (by kernel_rfl)
theorem GMake_unknown (hG : Steady G) {g : Rat} {n : Nat} (hg : SzQ n g) (hn : n ≤ KB) (h : ¬ g ≤ 0) (h0 : nOf u v w = 0) : Spec Tryz.prog G 13 [rowS RPr.cells (three3 u v w), F g] (.tup [Gn.none.dat, errno 15]) := by
  have kb := KB_eq
  have ck := GThree (G := G) hG (by simp [three3]) (three_ok hu hv hw) (by omega)
  rw [three_code hu hv hw] at ck
  have vl := FValidF (G := G) hG hg hn
  have sg := FSign_spec (G := G) hG hg.isQ hn
  exact Spec.of_run hG Tryz.func13 (ro := [3]) (m := 60) [.call ck, .call vl, .call sg, .eq 23 (Lw.eqB (sgn_le_false h)), .call (GRatios_zero hG hu hv hw h0)] (by kernel_rfl)
theorem GMake_zero (hG : Steady G) {g : Rat} {n : Nat} (hg : SzQ n g) (hn : n ≤ 8) (h : ¬ g ≤ 0) (h0 : ¬ nOf u v w = 0) (hz : kk1 u v w = 0 ∨ kk2 u v w = 0) : Spec Tryz.prog G 13 [rowS RPr.cells (three3 u v w), F g] (.tup [Gn.none.dat, errno 8]) := by
  have kb := KB_eq
  have ck := GThree (G := G) hG (by simp [three3]) (three_ok hu hv hw) (by omega)
  rw [three_code hu hv hw] at ck
  have vl := FValidF (G := G) hG hg (by omega)
  have sg := FSign_spec (G := G) hG hg.isQ (by omega)
  have ra := GRatios_ok (G := G) hG hu hv hw h0
  have a0 := FAdd0 (G := G) hG hg.isQ (by omega)
  have sz := sizes_of (Vp.row_ok hu) (Vp.row_ok hv) (Vp.row_ok hw)
  have s1 : SzQ 794 (kk1 u v w) := sz.k1
  have s2 : SzQ 794 (kk2 u v w) := sz.k2
  by_cases h1 : kk1 u v w = 0
  · rw [h1] at ra
    have d1 := FDiv_zero (G := G) hG hg.isQ isQ_zero (by omega) (by omega)
    exact Spec.of_run hG Tryz.func13 (ro := [3]) (m := 60) [.call ck, .call vl, .call sg, .eq 23 (Lw.eqB (sgn_le_false h)), .call ra, .call a0, .call d1] (by kernel_rfl)
  · have h2 : kk2 u v w = 0 := by rcases hz with hz | hz; (· exact absurd hz h1); exact hz
    rw [h2] at ra
    have d1 := FDiv_spec (G := G) hG hg.isQ s1.isQ (by omega) (by omega) h1
    have d2 := FDiv_zero (G := G) hG hg.isQ isQ_zero (by omega) (by omega)
    exact Spec.of_run hG Tryz.func13 (ro := [3]) (m := 60) [.call ck, .call vl, .call sg, .eq 23 (Lw.eqB (sgn_le_false h)), .call ra, .call a0, .call d1, .call d2] (by kernel_rfl)
theorem GMake_any (hG : Steady G) {g : Rat} {n : Nat} (hg : SzQ n g) (hn : n ≤ 8) (h : ¬ g ≤ 0) (h0 : ¬ nOf u v w = 0) (h1 : ¬ kk1 u v w = 0) (h2 : ¬ kk2 u v w = 0) :
    ((made g u v w).b ≤ 0 → Spec Tryz.prog G 13 [rowS RPr.cells (three3 u v w), F g] (.tup [Gn.none.dat, errno 16])) ∧
    (¬ (made g u v w).b ≤ 0 → Spec Tryz.prog G 13 [rowS RPr.cells (three3 u v w), F g] (.tup [(made g u v w).dat, .lit .nilIface])) := by
  have kb := KB_eq
  have ck := GThree (G := G) hG (by simp [three3]) (three_ok hu hv hw) (by omega)
  rw [three_code hu hv hw] at ck
  have vl := FValidF (G := G) hG hg (by omega)
  have sg := FSign_spec (G := G) hG hg.isQ (by omega)
  have ra := GRatios_ok (G := G) hG hu hv hw h0
  have a0 := FAdd0 (G := G) hG hg.isQ (by omega)
  have sz := sizes_of (Vp.row_ok hu) (Vp.row_ok hv) (Vp.row_ok hw)
  have s1 : SzQ 794 (kk1 u v w) := sz.k1
  have s2 : SzQ 794 (kk2 u v w) := sz.k2
  have s3 : SzQ 1737 (kk3 u v w) := sz.k3
  have g8 := hg.mono hn
  have d1 := FDiv_spec (G := G) hG hg.isQ s1.isQ (by omega) (by omega) h1
  have d2 := FDiv_spec (G := G) hG hg.isQ s2.isQ (by omega) (by omega) h2
  have a := g8.div s1
  have c := g8.div s2
  have o0 : (Gn.mk g (g / kk1 u v w) (g / kk2 u v w) 0).ok 802 := ⟨g8.mono (by omega), a.mono (by omega), c.mono (by omega), sz_zero (by omega)⟩
  have sq := Squares_ok (G := G) hG o0 (by omega)
  have tw := Twice_ok (G := G) hG o0 (by omega)
  have ml := FMul_spec (G := G) hG (Gn.two_sz o0).isQ s3.isQ (by omega) (by omega)
  have sb := FSub_spec (G := G) hG (Gn.sum_sz o0).isQ ((Gn.two_sz o0).mul s3).isQ (by omega) (by omega)
  have ss := FSign_spec (G := G) hG ((Gn.sum_sz o0).sub ((Gn.two_sz o0).mul s3)).isQ (by omega)
  constructor
  · intro hB
    exact Spec.of_run hG Tryz.func13 (ro := [3]) (m := 60)
      [.call ck, .call vl, .call sg, .eq 23 (Lw.eqB (sgn_le_false h)), .call ra, .call a0, .call d1, .call d2, .call sq, .call tw, .call ml, .call sb, .call ss, .eq 78 (Lw.eqB (sgn_le_true hB))] (by kernel_rfl)
  · intro hB
    exact Spec.of_run hG Tryz.func13 (ro := [3]) (m := 60)
      [.call ck, .call vl, .call sg, .eq 23 (Lw.eqB (sgn_le_false h)), .call ra, .call a0, .call d1, .call d2, .call sq, .call tw, .call ml, .call sb, .call ss, .eq 78 (Lw.eqB (sgn_le_false hB))] (by kernel_rfl)
end

/-! ### the reference -/
section
variable {k : Nat} {a b c d e f g h i : Rat} (sa : SzQ k a) (sb : SzQ k b) (sc : SzQ k c) (sd : SzQ k d) (se : SzQ k e) (sf : SzQ k f) (sg : SzQ k g) (sh : SzQ k h) (si : SzQ k i)
include sa sb sc sd se sf sg sh si in
theorem SzQ.det3 : SzQ (15 * k + 20) (det3 a b c d e f g h i) :=
  ((((sz_zero (k := 1) (by omega)).add (sa.mul ((se.mul si).sub (sf.mul sh)))).add (sd.mul ((sh.mul sc).sub (si.mul sb)))).add (sg.mul ((sb.mul sf).sub (sc.mul se)))).mono (by omega)
/-- The calls of a determinant. -/
def detTr (hG : Steady G) (hk : 15 * k + 20 ≤ KB) : List (Item Tryz.prog G) :=
  [.call (RFMul_spec hG se.isQ si.isQ (by omega) (by omega)), .call (RFMul_spec hG sf.isQ sh.isQ (by omega) (by omega)), .call (RFSub_spec hG (se.mul si).isQ (sf.mul sh).isQ (by omega) (by omega)),
   .call (RFMul_spec hG sa.isQ ((se.mul si).sub (sf.mul sh)).isQ (by omega) (by omega)), .call (RFAdd_spec hG isQ_zero (sa.mul ((se.mul si).sub (sf.mul sh))).isQ (by omega) (by omega)),
   .call (RFMul_spec hG sh.isQ sc.isQ (by omega) (by omega)), .call (RFMul_spec hG si.isQ sb.isQ (by omega) (by omega)), .call (RFSub_spec hG (sh.mul sc).isQ (si.mul sb).isQ (by omega) (by omega)),
   .call (RFMul_spec hG sd.isQ ((sh.mul sc).sub (si.mul sb)).isQ (by omega) (by omega)),
   .call (RFAdd_spec hG ((sz_zero (k := 1) (by omega)).add (sa.mul ((se.mul si).sub (sf.mul sh)))).isQ (sd.mul ((sh.mul sc).sub (si.mul sb))).isQ (by omega) (by omega)),
   .call (RFMul_spec hG sb.isQ sf.isQ (by omega) (by omega)), .call (RFMul_spec hG sc.isQ se.isQ (by omega) (by omega)), .call (RFSub_spec hG (sb.mul sf).isQ (sc.mul se).isQ (by omega) (by omega)),
   .call (RFMul_spec hG sg.isQ ((sb.mul sf).sub (sc.mul se)).isQ (by omega) (by omega)),
   .call (RFAdd_spec hG (((sz_zero (k := 1) (by omega)).add (sa.mul ((se.mul si).sub (sf.mul sh)))).add (sd.mul ((sh.mul sc).sub (si.mul sb)))).isQ (sg.mul ((sb.mul sf).sub (sc.mul se))).isQ (by omega) (by omega))]
end
def rows3 (x y z : Rw) : D := .agg ((cQ x.a ++ (cQ x.b ++ (cQ 1 ++ cQ x.v))) ++ ((cQ y.a ++ (cQ y.b ++ (cQ 1 ++ cQ y.v))) ++ (cQ z.a ++ (cQ z.b ++ (cQ 1 ++ cQ z.v)))))
theorem RDet_n (hG : Steady G) {x y z : Rw} (hx : x.ok 49) (hy : y.ok 49) (hz : z.ok 49) : Spec Tryz.prog G 54 [rows3 x y z, int 3] (F (det3 x.a x.b 1 y.a y.b 1 z.a z.b 1)) := by
  have kb := KB_eq
  exact Spec.of_run hG Tryz.func54 (ro := [2]) (m := 60)
    (detTr hx.1 hx.2.1 (sz_1.mono (by omega)) hy.1 hy.2.1 (sz_1.mono (by omega)) hz.1 hz.2.1 (sz_1.mono (by omega)) hG (by omega)) (by kernel_rfl)
theorem RDet_0 (hG : Steady G) {x y z : Rw} (hx : x.ok 49) (hy : y.ok 49) (hz : z.ok 49) : Spec Tryz.prog G 54 [rows3 x y z, int 0] (F (det3 x.v x.b 1 y.v y.b 1 z.v z.b 1)) := by
  have kb := KB_eq
  exact Spec.of_run hG Tryz.func54 (ro := [2]) (m := 60)
    (detTr hx.2.2 hx.2.1 (sz_1.mono (by omega)) hy.2.2 hy.2.1 (sz_1.mono (by omega)) hz.2.2 hz.2.1 (sz_1.mono (by omega)) hG (by omega)) (by kernel_rfl)
theorem RDet_1 (hG : Steady G) {x y z : Rw} (hx : x.ok 49) (hy : y.ok 49) (hz : z.ok 49) : Spec Tryz.prog G 54 [rows3 x y z, int 1] (F (det3 x.a x.v 1 y.a y.v 1 z.a z.v 1)) := by
  have kb := KB_eq
  exact Spec.of_run hG Tryz.func54 (ro := [2]) (m := 60)
    (detTr hx.1 hx.2.2 (sz_1.mono (by omega)) hy.1 hy.2.2 (sz_1.mono (by omega)) hz.1 hz.2.2 (sz_1.mono (by omega)) hG (by omega)) (by kernel_rfl)
theorem RDet_2 (hG : Steady G) {x y z : Rw} (hx : x.ok 49) (hy : y.ok 49) (hz : z.ok 49) : Spec Tryz.prog G 54 [rows3 x y z, int 2] (F (det3 x.a x.b x.v y.a y.b y.v z.a z.b z.v)) := by
  have kb := KB_eq
  exact Spec.of_run hG Tryz.func54 (ro := [2]) (m := 60)
    (detTr hx.1 hx.2.1 hx.2.2 hy.1 hy.2.1 hy.2.2 hz.1 hz.2.1 hz.2.2 hG (by omega)) (by kernel_rfl)
section
variable {u v w : Vp} (hu : u.ok 2) (hv : v.ok 2) (hw : w.ok 2)
include hu hv hw
theorem RRatios_zero (hG : Steady G) (h0 : nOf u v w = 0) : Spec Tryz.prog G 17 [rowS RPr.cells (three3 u v w)] (.tup [rowS cQ [], int 15]) := by
  have kb := KB_eq
  have r1 := Row_ok (G := G) hG hu (by omega)
  have r2 := Row_ok (G := G) hG hv (by omega)
  have r3 := Row_ok (G := G) hG hw (by omega)
  have hx := Vp.row_ok hu
  have hy := Vp.row_ok hv
  have hz := Vp.row_ok hw
  have dn := RDet_n (G := G) hG hx hy hz
  rw [det3_n] at dn
  have z := PZero_spec (G := G) hG (sizes_of hx hy hz).n.isQ (by omega)
  rw [decide_eq_true (show u.pr.row.n v.pr.row w.pr.row = 0 from h0)] at z
  exact Spec.of_run hG Tryz.func17 (ro := []) (m := 60) [.call r1, .call r2, .call r3, .call dn, .call z] (by kernel_rfl)
theorem RRatios_ok (hG : Steady G) (h0 : ¬ nOf u v w = 0) : Spec Tryz.prog G 17 [rowS RPr.cells (three3 u v w)] (.tup [rowS cQ [kk1 u v w, kk2 u v w, kk3 u v w], int 0]) := by
  have kb := KB_eq
  have r1 := Row_ok (G := G) hG hu (by omega)
  have r2 := Row_ok (G := G) hG hv (by omega)
  have r3 := Row_ok (G := G) hG hw (by omega)
  have hx := Vp.row_ok hu
  have hy := Vp.row_ok hv
  have hz := Vp.row_ok hw
  have sz := sizes_of hx hy hz
  have dn := RDet_n (G := G) hG hx hy hz
  rw [det3_n] at dn
  have z := PZero_spec (G := G) hG sz.n.isQ (by omega)
  rw [decide_eq_false (show ¬ u.pr.row.n v.pr.row w.pr.row = 0 from h0)] at z
  have d0 := RDet_0 (G := G) hG hx hy hz
  rw [det3_n1] at d0
  have d1 := RDet_1 (G := G) hG hx hy hz
  rw [det3_n2] at d1
  have d2 := RDet_2 (G := G) hG hx hy hz
  have v0 := RFDiv_spec (G := G) hG sz.n1.isQ sz.n.isQ (by omega) (by omega) h0
  have v1 := RFDiv_spec (G := G) hG sz.n2.isQ sz.n.isQ (by omega) (by omega) h0
  have s3 : SzQ 1000 (det3 u.pr.row.a u.pr.row.b u.pr.row.v v.pr.row.a v.pr.row.b v.pr.row.v w.pr.row.a w.pr.row.b w.pr.row.v) := (SzQ.det3 hx.1 hx.2.1 hx.2.2 hy.1 hy.2.1 hy.2.2 hz.1 hz.2.1 hz.2.2).mono (by omega)
  have v2 := RFDiv_spec (G := G) hG s3.isQ sz.n.isQ (by omega) (by omega) h0
  rw [k3_div h0] at v2
  exact Spec.of_run hG Tryz.func17 (ro := []) (m := 60) [.call r1, .call r2, .call r3, .call dn, .call z, .call d0, .call v0, .call d1, .call v1, .call d2, .call v2] (by kernel_rfl)
theorem RMake_unknown (hG : Steady G) {g : Rat} (h0 : nOf u v w = 0) : Spec Tryz.prog G 22 [rowS RPr.cells (three3 u v w), F g] (.tup [Gn.none.dat, int 15]) :=
  Spec.of_run hG Tryz.func22 (ro := [3]) (m := 60) [.call (RRatios_zero hu hv hw hG h0)] (by kernel_rfl)
theorem RMake_zero (hG : Steady G) {g : Rat} {n : Nat} (hg : SzQ n g) (hn : n ≤ 8) (h0 : ¬ nOf u v w = 0) (hz : kk1 u v w = 0 ∨ kk2 u v w = 0) : Spec Tryz.prog G 22 [rowS RPr.cells (three3 u v w), F g] (.tup [Gn.none.dat, int 8]) := by
  have kb := KB_eq
  have ra := RRatios_ok (G := G) hu hv hw hG h0
  have sz := sizes_of (Vp.row_ok hu) (Vp.row_ok hv) (Vp.row_ok hw)
  have s1 : SzQ 794 (kk1 u v w) := sz.k1
  have s2 : SzQ 794 (kk2 u v w) := sz.k2
  have dz := RFDiv_zero (G := G) hG hg.isQ isQ_zero (by omega) (by omega)
  by_cases h1 : kk1 u v w = 0
  · rw [h1] at ra
    by_cases h2 : kk2 u v w = 0
    · rw [h2] at ra
      exact Spec.of_run hG Tryz.func22 (ro := [3]) (m := 60) [.call ra, .call dz, .call dz] (by kernel_rfl)
    · have d2 := RFDiv_spec (G := G) hG hg.isQ s2.isQ (by omega) (by omega) h2
      exact Spec.of_run hG Tryz.func22 (ro := [3]) (m := 60) [.call ra, .call dz, .call d2] (by kernel_rfl)
  · have h2 : kk2 u v w = 0 := by rcases hz with hz | hz; (· exact absurd hz h1); exact hz
    rw [h2] at ra
    have d1 := RFDiv_spec (G := G) hG hg.isQ s1.isQ (by omega) (by omega) h1
    exact Spec.of_run hG Tryz.func22 (ro := [3]) (m := 60) [.call ra, .call d1, .call dz] (by kernel_rfl)
theorem RMake_any (hG : Steady G) {g : Rat} {n : Nat} (hg : SzQ n g) (hn : n ≤ 8) (h0 : ¬ nOf u v w = 0) (h1 : ¬ kk1 u v w = 0) (h2 : ¬ kk2 u v w = 0) :
    ((made g u v w).b ≤ 0 → Spec Tryz.prog G 22 [rowS RPr.cells (three3 u v w), F g] (.tup [Gn.none.dat, int 16])) ∧
    (¬ (made g u v w).b ≤ 0 → Spec Tryz.prog G 22 [rowS RPr.cells (three3 u v w), F g] (.tup [(made g u v w).dat, int 0])) := by
  have kb := KB_eq
  have ra := RRatios_ok (G := G) hu hv hw hG h0
  have sz := sizes_of (Vp.row_ok hu) (Vp.row_ok hv) (Vp.row_ok hw)
  have s1 : SzQ 794 (kk1 u v w) := sz.k1
  have s2 : SzQ 794 (kk2 u v w) := sz.k2
  have s3 : SzQ 1737 (kk3 u v w) := sz.k3
  have g8 := hg.mono hn
  have d1 := RFDiv_spec (G := G) hG hg.isQ s1.isQ (by omega) (by omega) h1
  have d2 := RFDiv_spec (G := G) hG hg.isQ s2.isQ (by omega) (by omega) h2
  have a := g8.div s1
  have c := g8.div s2
  have m1 := RFMul_spec (G := G) hG hg.isQ hg.isQ (by omega) (by omega)
  have m2 := RFMul_spec (G := G) hG a.isQ a.isQ (by omega) (by omega)
  have m3 := RFMul_spec (G := G) hG c.isQ c.isQ (by omega) (by omega)
  have a1 := RFAdd_spec (G := G) hG (a.mul a).isQ (c.mul c).isQ (by omega) (by omega)
  have a2 := RFAdd_spec (G := G) hG (g8.mul g8).isQ ((a.mul a).add (c.mul c)).isQ (by omega) (by omega)
  have m4 := RFMul_spec (G := G) hG a.isQ c.isQ (by omega) (by omega)
  have m5 := RFMul_spec (G := G) hG s3.isQ (a.mul c).isQ (by omega) (by omega)
  have m6 := RFMul_spec (G := G) hG sz_2.isQ (s3.mul (a.mul c)).isQ (by omega) (by omega)
  have sm := (g8.mul g8).add ((a.mul a).add (c.mul c))
  have st := sz_2.mul (s3.mul (a.mul c))
  have sb := RFSub_spec (G := G) hG sm.isQ st.isQ (by omega) (by omega)
  have e : g * g + (g / kk1 u v w * (g / kk1 u v w) + g / kk2 u v w * (g / kk2 u v w)) - 2 * (kk3 u v w * (g / kk1 u v w * (g / kk2 u v w))) = (made g u v w).b := by
    unfold made genOf
    simp only
    grind
  rw [e] at sb
  have ss := RFSign_spec (G := G) hG (made_ok hg hu hv hw hn).2.2.2.isQ (by omega)
  constructor
  · intro hB
    exact Spec.of_run hG Tryz.func22 (ro := [3]) (m := 60)
      [.call ra, .call d1, .call d2, .call m1, .call m2, .call m3, .call a1, .call a2, .call (RTwo hG), .call m4, .call m5, .call m6, .call sb, .call ss, .eq 70 (Lw.eqB (sgn_le_true hB))] (by kernel_rfl)
  · intro hB
    exact Spec.of_run hG Tryz.func22 (ro := [3]) (m := 60)
      [.call ra, .call d1, .call d2, .call m1, .call m2, .call m3, .call a1, .call a2, .call (RTwo hG), .call m4, .call m5, .call m6, .call sb, .call ss, .eq 70 (Lw.eqB (sgn_le_false hB))] (by kernel_rfl)
end
end Lw
