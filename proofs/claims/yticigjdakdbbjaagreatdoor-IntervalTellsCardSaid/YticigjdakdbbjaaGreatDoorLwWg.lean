/- The statement about what intervals tell, run. No condition; where the table of Itoa lies. -/
import Derived.Test.YticigjdakdbbjaaGreatDoorLwWf
namespace Lw
open Go Go.RowKit Go.Proofs Go.Lib

variable {G : World → Prop}

theorem RIMake_ok (hG : Steady G) {k : Nat} {r q : Raw} (hr : r.ok k) (hq : q.ok k) (hk : k + k < KB) (h : r.q ≤ q.q) : Spec Tryz.prog G 7 [r.dat, q.dat] (.tup [FR r.q q.q, int 0]) := by
  have c1 := RFCmp_spec hG (Raw.ok.isQ hr) (Raw.ok.isQ hq) hk
  have s := span2_spec hG hr hq hk
  rw [rmin_l h, rmax_r h] at s
  exact Spec.of_run hG Tryz.func7 (ro := [2, 3]) (m := 40) [.call c1, .eq 9 (eqB (cmpQ_gt_false h)), .call s] (by kernel_rfl)
theorem RIMake_bad (hG : Steady G) {k : Nat} {r q : Raw} (hr : r.ok k) (hq : q.ok k) (hk : k + k < KB) (h : ¬ r.q ≤ q.q) : Spec Tryz.prog G 7 [r.dat, q.dat] (.tup [FR 0 0, int 3]) := by
  have c1 := RFCmp_spec hG (Raw.ok.isQ hr) (Raw.ok.isQ hq) hk
  exact Spec.of_run hG Tryz.func7 (ro := [2, 3]) (m := 40) [.call c1, .eq 9 (eqB (cmpQ_gt_true h))] (by kernel_rfl)
theorem RIPoint_spec (hG : Steady G) {k : Nat} {r : Raw} (hr : r.ok k) (hk : k + k < KB) : Spec Tryz.prog G 15 [r.dat] (FR r.q r.q) :=
  Spec.of_run hG Tryz.func15 (ro := [1]) (m := 40) [.call (span1_spec hG hr hk)] (by kernel_rfl)
theorem IPoint_spec (hG : Steady G) {k : Nat} {r : Raw} (hr : r.ok k) (hk : k ≤ KB) : Spec Tryz.prog G 14 [r.dat] (FR r.q r.q) :=
  Spec.of_run hG Tryz.func14 (ro := [1]) (m := 40) [.call (FAdd0 hG (Raw.ok.isQ hr) hk), .call (FAdd0 hG (Raw.ok.isQ hr) hk)] (by kernel_rfl)
theorem RInside_spec (hG : Steady G) {k l : Nat} {x y : D} {a b c d : Rat} (hx : IsI k x a b) (hy : IsI l y c d) (hk : k + k + (l + l) < KB) :
    Spec Tryz.prog G 19 [x, y] (bool (decide (c ≤ a ∧ b ≤ d))) := by
  have c1 := given_spec hG hx (by omega)
  have k1 := RContains_spec hG hy hx.szL.1.isQ (by omega)
  have k2 := RContains_spec hG hy hx.szL.2.isQ (by omega)
  have hab := hx.le
  obtain ⟨r, rfl, -, -, -⟩ := hx
  obtain ⟨p, rfl, -, -, -⟩ := hy
  by_cases h1 : c ≤ a
  · by_cases h2 : b ≤ d
    · rw [decide_eq_true h1, decide_eq_true (Rat.le_trans hab h2)] at k1
      rw [decide_eq_true (Rat.le_trans h1 hab), decide_eq_true h2] at k2
      rw [decide_eq_true ⟨h1, h2⟩]
      exact Spec.of_run hG Tryz.func19 (ro := [3]) (m := 40) [.call c1, .call k1, .call k2] (by kernel_rfl)
    · have e : decide (c ≤ a ∧ b ≤ d) = false := decide_eq_false fun h => h2 h.2
      rw [e]
      rw [decide_eq_true (Rat.le_trans h1 hab), decide_eq_false h2] at k2
      by_cases h3 : a ≤ d
      · rw [decide_eq_true h1, decide_eq_true h3] at k1
        exact Spec.of_run hG Tryz.func19 (ro := [3]) (m := 40) [.call c1, .call k1, .call k2] (by kernel_rfl)
      · rw [decide_eq_true h1, decide_eq_false h3] at k1
        exact Spec.of_run hG Tryz.func19 (ro := [3]) (m := 40) [.call c1, .call k1] (by kernel_rfl)
  · have e : decide (c ≤ a ∧ b ≤ d) = false := decide_eq_false fun h => h1 h.1
    rw [e]
    rw [decide_eq_false h1] at k1
    exact Spec.of_run hG Tryz.func19 (ro := [3]) (m := 40) [.call c1, .call k1] (by kernel_rfl)
theorem IWidth_spec (hG : Steady G) {k : Nat} {x : D} {a b : Rat} (hx : IsI k x a b) (hk : k ≤ KB) : Spec Tryz.prog G 21 [x] (F (b - a)) := by
  have c := clean_spec hG hx hk
  have n1 := FSub_spec hG hx.szL.2.isQ hx.szL.1.isQ hk hk
  obtain ⟨r, rfl, -, -, -⟩ := hx
  exact Spec.of_run hG Tryz.func21 (ro := []) (m := 40) [.call c, .call n1] (by kernel_rfl)
theorem RIWidth_spec (hG : Steady G) {k : Nat} {x : D} {a b : Rat} (hx : IsI k x a b) (hk : k + k < KB) : Spec Tryz.prog G 22 [x] (F (b - a)) := by
  have c := given_spec hG hx hk
  have n1 := RFSub_spec hG hx.szL.2.isQ hx.szL.1.isQ (by omega) (by omega)
  obtain ⟨r, rfl, -, -, -⟩ := hx
  exact Spec.of_run hG Tryz.func22 (ro := []) (m := 40) [.call c, .call n1] (by kernel_rfl)
theorem RIMid_spec (hG : Steady G) {k : Nat} {x : D} {a b : Rat} (hx : IsI k x a b) (hk : k + k + 1 < KB) : Spec Tryz.prog G 24 [x] (F (Rat.divInt 1 2 * (a + b))) := by
  have c := given_spec hG hx (by omega)
  have m := RFMake_spec (G := G) hG (i := 1) (j := 2) (by omega) (by omega) (by omega) (by omega) (by omega)
  have n1 := RFAdd_spec hG hx.szL.1.isQ hx.szL.2.isQ (by omega) (by omega)
  have n2 := RFMul_spec hG sz_half.isQ (hx.szL.1.add hx.szL.2).isQ (by omega) (by omega)
  obtain ⟨r, rfl, -, -, -⟩ := hx
  exact Spec.of_run hG Tryz.func24 (ro := []) (m := 40) [.call c, .call m, .call n1, .call n2] (by kernel_rfl)
/-- The sign of an interval. -/
def sgnI (a b : Rat) : Int := if sgn a = sgn b then sgn a else 0
def hasI (a b : Rat) : Bool := decide (sgn a = sgn b)
theorem ISign_spec (hG : Steady G) {k : Nat} {x : D} {a b : Rat} (hx : IsI k x a b) (hk : k ≤ KB) : Spec Tryz.prog G 8 [x] (.tup [int (sgnI a b), bool (hasI a b)]) := by
  have c := clean_spec hG hx hk
  have n1 := FSign_spec hG hx.szL.1.isQ hk
  have n2 := FSign_spec hG hx.szL.2.isQ hk
  obtain ⟨r, rfl, -, -, -⟩ := hx
  unfold sgnI hasI
  by_cases h : sgn a = sgn b
  · rw [if_pos h, decide_eq_true h]
    exact Spec.of_run hG Tryz.func8 (ro := []) (m := 40) [.call c, .call n1, .call n2, .eq 16 (eqB (x := (sgn a == sgn b)) (y := true) (beq_iff_eq.2 h))] (by kernel_rfl)
  · rw [if_neg h, decide_eq_false h]
    exact Spec.of_run hG Tryz.func8 (ro := []) (m := 40) [.call c, .call n1, .call n2, .eq 16 (eqB (x := (sgn a == sgn b)) (y := false) (beq_eq_false_iff_ne.2 h))] (by kernel_rfl)
theorem RISign_spec (hG : Steady G) {k : Nat} {x : D} {a b : Rat} (hx : IsI k x a b) (hk : k + k < KB) : Spec Tryz.prog G 9 [x] (.tup [int (sgnI a b), bool (hasI a b)]) := by
  have c := given_spec hG hx hk
  have n1 := RFSign_spec hG hx.szL.1.isQ (by omega)
  have n2 := RFSign_spec hG hx.szL.2.isQ (by omega)
  obtain ⟨r, rfl, -, -, -⟩ := hx
  unfold sgnI hasI
  by_cases h : sgn a = sgn b
  · rw [if_pos h, decide_eq_true h]
    exact Spec.of_run hG Tryz.func9 (ro := []) (m := 40) [.call c, .call n1, .call n2, .eq 16 (eqB (x := (sgn a != sgn b)) (y := false) (by rw [h]; simp))] (by kernel_rfl)
  · rw [if_neg h, decide_eq_false h]
    exact Spec.of_run hG Tryz.func9 (ro := []) (m := 40) [.call c, .call n1, .call n2, .eq 16 (eqB (x := (sgn a != sgn b)) (y := true) (bne_iff_ne.2 h))] (by kernel_rfl)
theorem Tells_long (hG : Steady G) (r q : RRaw) (h : (r.short && q.short) = false) : Spec Tryz.prog G 3 [r.dat, q.dat] (bool true) := by
  have s := short_two (G := G) hG r q
  rw [h] at s
  exact Spec.of_run hG Tryz.func3 (ro := [2, 3]) (m := 60) [.call s, .call (awake_spec hG)] (by kernel_rfl)
theorem tx_beq (l : List UInt8) : ((⟨l.toArray⟩ : ByteArray).toList == (⟨l.toArray⟩ : ByteArray).toList) = true := beq_self_eq_true _
theorem Tells_spec (hG : Steady G) (hT : ∀ w, G w → Tab w) {r q : RRaw} (hr : r.digs) (hq : q.digs) : Spec Tryz.prog G 3 [r.dat, q.dat] (bool true) := by
  cases hs : (r.short && q.short) with
  | false => exact Tells_long hG r q hs
  | true =>
    have s := short_two (G := G) hG r q
    rw [hs] at s
    simp only [Bool.and_eq_true] at hs
    have kb := KB_eq
    have ok := RRaw.short_ok hr hs.1
    have oq := RRaw.short_ok hq hs.2
    have hx := RRaw.isI ok
    have hy := RRaw.isI oq
    obtain ⟨sa, sb⟩ := hx.szL
    have aw := awake_spec (G := G) hG
    have sg := ISign_spec hG hx (by omega)
    have rsg := RISign_spec hG hx (by omega)
    have iv := IValid_spec (G := G) hG ok (by omega)
    have rv := RIValid_spec (G := G) hG ok (by omega)
    have pt := IPoint_spec (G := G) hG ok.1 (by omega)
    have rpt := RIPoint_spec (G := G) hG ok.1 (by omega)
    have sp := SameI_refl (G := G) hG ok.1.sz ok.1.sz (by omega)
    have ct := Contains_spec hG hx (Raw.ok.isQ oq.1) (by omega) (by omega)
    have rct := RContains_spec hG hx (Raw.ok.isQ oq.1) (by omega)
    have ins := Inside_spec hG hx hy (by omega) (by omega)
    have rins := RInside_spec hG hx hy (by omega)
    have wd := IWidth_spec hG hx (by omega)
    have rwd := RIWidth_spec hG hx (by omega)
    have sw := SameF_spec (G := G) hG (a := r.H - r.L) (b := r.H - r.L) (sb.sub sa) (by omega)
    rw [decide_eq_true rfl] at sw
    have md := Mid_spec hG hx (by omega)
    have rmd := RIMid_spec hG hx (by omega)
    have sm := SameF_spec (G := G) hG (a := Rat.divInt 1 2 * (r.L + r.H)) (b := Rat.divInt 1 2 * (r.L + r.H)) (sz_half.mul (sa.add sb)) (by omega)
    rw [decide_eq_true rfl] at sm
    have tx1 := ITextS hG hT hx (by omega)
    have tx2 := RITextS hG hx (by omega)
    have e63 : (r.valid == r.valid) = true := by simp
    have e83 : ((decide (r.L ≤ q.lo.q) && decide (q.lo.q ≤ r.H)) == (decide (r.L ≤ q.lo.q) && decide (q.lo.q ≤ r.H))) = true := by simp
    have e92 : (decide (q.L ≤ r.L ∧ r.H ≤ q.H) == decide (q.L ≤ r.L ∧ r.H ≤ q.H)) = true := by simp
    have e111 : (sgnI r.L r.H == sgnI r.L r.H) = true := by simp
    have e116 : (hasI r.L r.H == hasI r.L r.H) = true := by simp
    have e123 := tx_beq (rangeT r.L r.H)
    by_cases h : r.lo.q ≤ q.hi.q
    · have m1 := IMake_ok hG (Raw.ok.isQ ok.1) (Raw.ok.isQ oq.2) (by omega) (by omega) h
      have m2 := RIMake_ok hG ok.1 oq.2 (by omega) h
      have e0 := Num_nil (G := G) hG
      have s1 := SameI_refl (G := G) hG ok.1.sz oq.2.sz (by omega)
      exact Spec.of_run hG Tryz.func3 (ro := [2, 3]) (m := 60)
        [.call s, .call aw, .call m1, .call m2, .call sg, .call rsg, .call e0, .call s1, .call iv, .call rv, .eq 63 (eqB e63), .call pt, .call rpt, .call sp, .call ct, .call rct, .eq 83 (eqB e83), .call ins, .call rins, .eq 92 (eqB e92),
         .call wd, .call rwd, .call sw, .call md, .call rmd, .call sm, .eq 111 (eqB e111), .eq 116 (eqB e116), .call tx1, .call tx2, .eq 123 (eqB e123)] (by kernel_rfl)
    · have m1 := IMake_bad hG (Raw.ok.isQ ok.1) (Raw.ok.isQ oq.2) (by omega) (by omega) h
      have m2 := RIMake_bad hG ok.1 oq.2 (by omega) h
      have e0 := Num_err (G := G) hG 3
      have s1 := SameI_refl (G := G) hG (sz_zero (k := 1) (by omega)) (sz_zero (k := 1) (by omega)) (by omega)
      exact Spec.of_run hG Tryz.func3 (ro := [2, 3]) (m := 60)
        [.call s, .call aw, .call m1, .call m2, .call sg, .call rsg, .call e0, .call s1, .call iv, .call rv, .eq 63 (eqB e63), .call pt, .call rpt, .call sp, .call ct, .call rct, .eq 83 (eqB e83), .call ins, .call rins, .eq 92 (eqB e92),
         .call wd, .call rwd, .call sw, .call md, .call rmd, .call sm, .eq 111 (eqB e111), .eq 116 (eqB e116), .call tx1, .call tx2, .eq 123 (eqB e123)] (by kernel_rfl)
end Lw
