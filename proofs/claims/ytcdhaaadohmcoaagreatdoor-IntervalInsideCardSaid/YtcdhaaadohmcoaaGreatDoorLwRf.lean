/- The contracts of the intervals: Valid, clean, given, Contains, products. No condition. -/
import Derived.Test.YtcdhaaadohmcoaaGreatDoorLwRe
namespace Lw
open Go Go.RowKit Go.Proofs

variable {G : World → Prop}

theorem valid_canon {r : Raw} (h : r.valid = true) : r = rawOf r.q := by
  by_cases hg : r.good
  · obtain ⟨e1, e2⟩ := Raw.q_parts hg
    have p1 := Raw.good_num hg
    obtain ⟨-, -, g3, g4, -⟩ := id hg
    unfold rawOf
    rw [e1, e2, if_neg (mkI_ne _ p1), dec_neg _ p1, mkI_abs, ← g3, ← g4]
  · rcases Raw.bad hg with hb | hb
    · rw [hb] at h; cases h
    · subst hb; rfl
theorem rawOf_valid (q : Rat) : (rawOf q).valid = true := by
  by_cases h : q.num = 0
  · have e : rawOf q = ⟨false, [], []⟩ := by unfold rawOf; rw [if_pos h]
    rw [e]; rfl
  · exact Raw.good_valid (rawOf_good h)

/-- The fields of an interval. -/
structure RRaw where
  lo : Raw
  hi : Raw
def RRaw.dat (r : RRaw) : D := .agg [bool r.lo.s, rowW r.lo.n, rowW r.lo.d, bool r.hi.s, rowW r.hi.n, rowW r.hi.d]
def RRaw.ok (k : Nat) (r : RRaw) : Prop := r.lo.ok k ∧ r.hi.ok k
def RRaw.valid (r : RRaw) : Bool := r.lo.valid && (r.hi.valid && decide (r.lo.q ≤ r.hi.q))
def RRaw.L (r : RRaw) : Rat := if r.valid then r.lo.q else 0
def RRaw.H (r : RRaw) : Rat := if r.valid then r.hi.q else 0
/-- Such data stands for the interval a..b. -/
def IsI (k : Nat) (x : D) (a b : Rat) : Prop := ∃ r : RRaw, x = r.dat ∧ r.ok k ∧ r.L = a ∧ r.H = b
def rrOf (a b : Rat) : RRaw := ⟨rawOf a, rawOf b⟩
def FR (a b : Rat) : D := (rrOf a b).dat
theorem rrOf_valid {a b : Rat} (h : a ≤ b) : (rrOf a b).valid = true := by
  unfold RRaw.valid rrOf
  simp only [rawOf_valid, rawOf_q, Bool.true_and]
  exact decide_eq_true h
theorem FR_isI {k : Nat} {a b : Rat} (ha : SzQ k a) (hb : SzQ k b) (h : a ≤ b) : IsI k (FR a b) a b := by
  refine ⟨rrOf a b, rfl, ⟨ha.ok, hb.ok⟩, ?_, ?_⟩
  · unfold RRaw.L; rw [if_pos (rrOf_valid h)]; exact rawOf_q a
  · unfold RRaw.H; rw [if_pos (rrOf_valid h)]; exact rawOf_q b
theorem IsI.le {k : Nat} {x : D} {a b : Rat} (h : IsI k x a b) : a ≤ b := by
  obtain ⟨r, -, -, rfl, rfl⟩ := h
  unfold RRaw.L RRaw.H
  cases hv : r.valid with
  | false => exact Rat.le_refl
  | true =>
    unfold RRaw.valid at hv
    simp only [Bool.and_eq_true, decide_eq_true_eq] at hv
    exact hv.2.2
theorem RRaw.canon {r : RRaw} (h : r.valid = true) : r = rrOf r.lo.q r.hi.q := by
  obtain ⟨l, u⟩ := r
  unfold RRaw.valid at h
  simp only [Bool.and_eq_true, decide_eq_true_eq] at h
  unfold rrOf
  simp only
  rw [← valid_canon h.1, ← valid_canon h.2.1]
theorem IsI.szL {k : Nat} {x : D} {a b : Rat} (h : IsI k x a b) : SzQ k a ∧ SzQ k b := by
  obtain ⟨r, -, ⟨h1, h2⟩, rfl, rfl⟩ := h
  unfold RRaw.L RRaw.H
  split
  · exact ⟨h1.sz, h2.sz⟩
  · exact ⟨sz_zero h1.2.2.2.2, sz_zero h1.2.2.2.2⟩
theorem IsI.isI {k : Nat} {x : D} {a b : Rat} (h : IsI k x a b) : IsI k (FR a b) a b := FR_isI h.szL.1 h.szL.2 h.le
theorem Raw.ok.isQ {k : Nat} {r : Raw} (h : r.ok k) : IsQ k r.dat r.q := ⟨r, rfl, h, rfl⟩

/-! ### Valid -/
theorem IValid_spec (hG : Steady G) {k : Nat} {r : RRaw} (hr : r.ok k) (hk : k ≤ KB) : Spec Tryz.prog G 48 [r.dat] (bool r.valid) := by
  have v1 := FValid_spec (G := G) hG hr.1 hk
  have v2 := FValid_spec (G := G) hG hr.2 hk
  have c := FCmp_spec hG (Raw.ok.isQ hr.1) (Raw.ok.isQ hr.2) hk hk
  have ev : r.valid = (r.lo.valid && (r.hi.valid && decide (r.lo.q ≤ r.hi.q))) := rfl
  have ec : decide (cmpQ r.lo.q r.hi.q ≤ 0) = decide (r.lo.q ≤ r.hi.q) := decide_eq_decide.2 cmpQ_le
  rw [ev]
  cases h1 : r.lo.valid with
  | false =>
    rw [h1] at v1
    exact Spec.of_run hG Tryz.func48 (ro := [1]) (m := 40) [.call v1] (by kernel_rfl)
  | true =>
    rw [h1] at v1
    cases h2 : r.hi.valid with
    | false =>
      rw [h2] at v2
      exact Spec.of_run hG Tryz.func48 (ro := [1]) (m := 40) [.call v1, .call v2] (by kernel_rfl)
    | true =>
      rw [h2] at v2
      exact Spec.of_run hG Tryz.func48 (ro := [1]) (m := 40) [.call v1, .call v2, .call c, .eq 17 (eqB ec)] (by kernel_rfl)
theorem RIValid_spec (hG : Steady G) {k : Nat} {r : RRaw} (hr : r.ok k) (hk : k + k < KB) : Spec Tryz.prog G 18 [r.dat] (bool r.valid) := by
  have v1 := RFValid_spec (G := G) hG hr.1 (by omega)
  have v2 := RFValid_spec (G := G) hG hr.2 (by omega)
  have c := RFCmp_spec hG (Raw.ok.isQ hr.1) (Raw.ok.isQ hr.2) hk
  have ev : r.valid = (r.lo.valid && (r.hi.valid && decide (r.lo.q ≤ r.hi.q))) := rfl
  have ec : decide (cmpQ r.lo.q r.hi.q ≤ 0) = decide (r.lo.q ≤ r.hi.q) := decide_eq_decide.2 cmpQ_le
  rw [ev]
  cases h1 : r.lo.valid with
  | false =>
    rw [h1] at v1
    exact Spec.of_run hG Tryz.func18 (ro := [1]) (m := 40) [.call v1] (by kernel_rfl)
  | true =>
    rw [h1] at v1
    cases h2 : r.hi.valid with
    | false =>
      rw [h2] at v2
      exact Spec.of_run hG Tryz.func18 (ro := [1]) (m := 40) [.call v1, .call v2] (by kernel_rfl)
    | true =>
      rw [h2] at v2
      exact Spec.of_run hG Tryz.func18 (ro := [1]) (m := 40) [.call v1, .call v2, .call c, .eq 17 (eqB ec)] (by kernel_rfl)
theorem FAdd0 (hG : Steady G) {k : Nat} {x : D} {a : Rat} (hx : IsQ k x a) (hk : k ≤ KB) : Spec Tryz.prog G 21 [x, F 0] (F a) := by
  have := FAdd_spec hG hx isQ_zero hk (by rw [KB_eq]; omega)
  rwa [rat_add0] at this
theorem clean_spec (hG : Steady G) {k : Nat} {x : D} {a b : Rat} (hx : IsI k x a b) (hk : k ≤ KB) : Spec Tryz.prog G 63 [x] (FR a b) := by
  obtain ⟨r, rfl, hr, rfl, rfl⟩ := hx
  have v := IValid_spec (G := G) hG hr hk
  unfold RRaw.L RRaw.H
  cases hv : r.valid with
  | false =>
    rw [hv] at v
    rw [if_neg (by simp)]
    exact Spec.of_run hG Tryz.func63 (ro := [1]) (m := 40) [.call v] (by kernel_rfl)
  | true =>
    rw [hv] at v
    rw [if_pos rfl, if_pos rfl]
    exact Spec.of_run hG Tryz.func63 (ro := [1]) (m := 40) [.call v, .call (FAdd0 hG (Raw.ok.isQ hr.1) hk), .call (FAdd0 hG (Raw.ok.isQ hr.2) hk)] (by kernel_rfl)
theorem given_spec (hG : Steady G) {k : Nat} {x : D} {a b : Rat} (hx : IsI k x a b) (hk : k + k < KB) : Spec Tryz.prog G 74 [x] (FR a b) := by
  obtain ⟨r, rfl, hr, rfl, rfl⟩ := hx
  have v := RIValid_spec (G := G) hG hr hk
  unfold RRaw.L RRaw.H
  cases hv : r.valid with
  | false =>
    rw [hv] at v
    rw [if_neg (by simp)]
    exact Spec.of_run hG Tryz.func74 (ro := [1]) (m := 40) [.call v] (by kernel_rfl)
  | true =>
    rw [hv] at v
    rw [if_pos rfl, if_pos rfl]
    have e : FR r.lo.q r.hi.q = r.dat := by unfold FR; rw [← RRaw.canon hv]
    rw [e]
    exact Spec.of_run hG Tryz.func74 (ro := [1]) (m := 40) [.call v] (by kernel_rfl)

/-! ### Contains -/
theorem le_dec (a b : Rat) : decide (cmpQ a b ≤ 0) = decide (a ≤ b) := decide_eq_decide.2 cmpQ_le
theorem Contains_spec (hG : Steady G) {k l : Nat} {x y : D} {a b q : Rat} (hx : IsI k x a b) (hy : IsQ l y q) (hk : k ≤ KB) (hl : l ≤ KB) :
    Spec Tryz.prog G 27 [x, y] (bool (decide (a ≤ q) && decide (q ≤ b))) := by
  have c := clean_spec hG hx hk
  have c1 := FCmp_spec hG hx.szL.1.isQ hy hk hl
  have c2 := FCmp_spec hG hy hx.szL.2.isQ hl hk
  obtain ⟨r, rfl, -, -, -⟩ := hx
  obtain ⟨p, rfl, -, -⟩ := hy
  by_cases h : a ≤ q
  · rw [decide_eq_true h]
    exact Spec.of_run hG Tryz.func27 (ro := [3]) (m := 40) [.call c, .call c1, .eq 11 (eqB ((le_dec a q).trans (decide_eq_true h))), .call c2, .eq 17 (eqB (le_dec q b))] (by kernel_rfl)
  · rw [decide_eq_false h]
    exact Spec.of_run hG Tryz.func27 (ro := [3]) (m := 40) [.call c, .call c1, .eq 11 (eqB ((le_dec a q).trans (decide_eq_false h)))] (by kernel_rfl)

/-! ### Products -/
def mulLo (a b c d : Rat) : Rat := min (min (min (a * c) (a * d)) (b * c)) (b * d)
def mulHi (a b c d : Rat) : Rat := max (max (max (a * c) (a * d)) (b * c)) (b * d)
theorem SzQ.min {k : Nat} {a b : Rat} (ha : SzQ k a) (hb : SzQ k b) : SzQ k (min a b) := by rw [min_of]; split; (· exact ha); exact hb
theorem SzQ.max {k : Nat} {a b : Rat} (ha : SzQ k a) (hb : SzQ k b) : SzQ k (max a b) := by rw [max_of]; split; (· exact ha); exact hb
theorem IMul_spec (hG : Steady G) {k l : Nat} {x y : D} {a b c d : Rat} (hx : IsI k x a b) (hy : IsI l y c d) (hk : k + l ≤ KB) :
    Spec Tryz.prog G 20 [x, y] (FR (mulLo a b c d) (mulHi a b c d)) := by
  have c1 := clean_spec hG hx (by omega)
  have c2 := clean_spec hG hy (by omega)
  obtain ⟨sa, sb⟩ := hx.szL
  obtain ⟨sc, sd⟩ := hy.szL
  have kk : k ≤ KB := by omega
  have ll : l ≤ KB := by omega
  have m1 := FMul_spec hG sa.isQ sc.isQ kk ll
  have m2 := FMul_spec hG sa.isQ sd.isQ kk ll
  have m3 := FMul_spec hG sb.isQ sc.isQ kk ll
  have m4 := FMul_spec hG sb.isQ sd.isQ kk ll
  have s1 := sa.mul sc
  have s2 := sa.mul sd
  have s3 := sb.mul sc
  have s4 := sb.mul sd
  have z := FAdd0 hG s1.isQ hk
  have n1 := FMin_spec hG s1.isQ s2.isQ hk hk
  have x1 := FMax_spec hG s1.isQ s2.isQ hk hk
  have n2 := FMin_spec hG (s1.min s2).isQ s3.isQ hk hk
  have x2 := FMax_spec hG (s1.max s2).isQ s3.isQ hk hk
  have n3 := FMin_spec hG ((s1.min s2).min s3).isQ s4.isQ hk hk
  have x3 := FMax_spec hG ((s1.max s2).max s3).isQ s4.isQ hk hk
  obtain ⟨r, rfl, -, -, -⟩ := hx
  obtain ⟨p, rfl, -, -, -⟩ := hy
  exact Spec.of_run hG Tryz.func20 (ro := []) (m := 60) [.call c1, .call c2, .call m1, .call z, .call m2, .call m3, .call m4, .call n1, .call x1, .call n2, .call x2, .call n3, .call x3] (by kernel_rfl)
end Lw
