/- The contracts of the intervals: Valid, clean, given, Contains, products. No condition. -/
import Derived.Test.YtfdllnbmjlhliaaGreatDoorLwRe
namespace Lw
open Go Go.RowKit Go.Proofs

variable {G : World → Prop}

theorem valid_canon {r : Raw} (h : r.valid = true) : r = rawOf r.q := by
  by_cases hg : r.good
  · obtain ⟨e1, e2⟩ := Raw.q_parts hg
    have p1 := Raw.good_num hg
    obtain ⟨-, -, g3, g4, -⟩ := id hg
    unfold rawOf
    rw [e1, e2, if_neg (mkI_ne _ p1), dec_neg _ p1, mkI_abs, ← g3, ← g4]
  · rcases Raw.bad hg with hb | hb
    · rw [hb] at h; cases h
    · subst hb; rfl
theorem rawOf_valid (q : Rat) : (rawOf q).valid = true := by
  by_cases h : q.num = 0
  · have e : rawOf q = ⟨false, [], []⟩ := by unfold rawOf; rw [if_pos h]
    rw [e]; rfl
  · exact Raw.good_valid (rawOf_good h)

/-- The fields of an interval. -/
structure RRaw where
  lo : Raw
  hi : Raw
def RRaw.dat (r : RRaw) : D := .agg [bool r.lo.s, rowW r.lo.n, rowW r.lo.d, bool r.hi.s, rowW r.hi.n, rowW r.hi.d]
def RRaw.ok (k : Nat) (r : RRaw) : Prop := r.lo.ok k ∧ r.hi.ok k
def RRaw.valid (r : RRaw) : Bool := r.lo.valid && (r.hi.valid && decide (r.lo.q ≤ r.hi.q))
def RRaw.L (r : RRaw) : Rat := if r.valid then r.lo.q else 0
def RRaw.H (r : RRaw) : Rat := if r.valid then r.hi.q else 0
/-- Such data stands for the interval a..b. -/
def IsI (k : Nat) (x : D) (a b : Rat) : Prop := ∃ r : RRaw, x = r.dat ∧ r.ok k ∧ r.L = a ∧ r.H = b
def rrOf (a b : Rat) : RRaw := ⟨rawOf a, rawOf b⟩
def FR (a b : Rat) : D := (rrOf a b).dat
theorem rrOf_valid {a b : Rat} (h : a ≤ b) : (rrOf a b).valid = true := by
  unfold RRaw.valid rrOf
  simp only [rawOf_valid, rawOf_q, Bool.true_and]
  exact decide_eq_true h
theorem FR_isI {k : Nat} {a b : Rat} (ha : SzQ k a) (hb : SzQ k b) (h : a ≤ b) : IsI k (FR a b) a b := by
  refine ⟨rrOf a b, rfl, ⟨ha.ok, hb.ok⟩, ?_, ?_⟩
  · unfold RRaw.L; rw [if_pos (rrOf_valid h)]; exact rawOf_q a
  · unfold RRaw.H; rw [if_pos (rrOf_valid h)]; exact rawOf_q b
theorem IsI.le {k : Nat} {x : D} {a b : Rat} (h : IsI k x a b) : a ≤ b := by
  obtain ⟨r, -, -, rfl, rfl⟩ := h
  unfold RRaw.L RRaw.H
  cases hv : r.valid with
  | false => exact Rat.le_refl
  | true =>
    unfold RRaw.valid at hv
    simp only [Bool.and_eq_true, decide_eq_true_eq] at hv
    exact hv.2.2
theorem RRaw.canon {r : RRaw} (h : r.valid = true) : r = rrOf r.lo.q r.hi.q := by
  obtain ⟨l, u⟩ := r
  unfold RRaw.valid at h
  simp only [Bool.and_eq_true, decide_eq_true_eq] at h
  unfold rrOf
  simp only
  rw [← valid_canon h.1, ← valid_canon h.2.1]
theorem IsI.szL {k : Nat} {x : D} {a b : Rat} (h : IsI k x a b) : SzQ k a ∧ SzQ k b := by
  obtain ⟨r, -, ⟨h1, h2⟩, rfl, rfl⟩ := h
  unfold RRaw.L RRaw.H
  split
  · exact ⟨h1.sz, h2.sz⟩
  · exact ⟨sz_zero h1.2.2.2.2, sz_zero h1.2.2.2.2⟩
theorem IsI.isI {k : Nat} {x : D} {a b : Rat} (h : IsI k x a b) : IsI k (FR a b) a b := FR_isI h.szL.1 h.szL.2 h.le
theorem Raw.ok.isQ {k : Nat} {r : Raw} (h : r.ok k) : IsQ k r.dat r.q := ⟨r, rfl, h, rfl⟩

/-! ### Valid -/
theorem FAdd0 (hG : Steady G) {k : Nat} {x : D} {a : Rat} (hx : IsQ k x a) (hk : k ≤ KB) : Spec Tryz.prog G 35 [x, F 0] (F a) := by
  have := FAdd_spec hG hx isQ_zero hk (by rw [KB_eq]; omega)
  rwa [rat_add0] at this
/-! ### Contains -/
theorem le_dec (a b : Rat) : decide (cmpQ a b ≤ 0) = decide (a ≤ b) := decide_eq_decide.2 cmpQ_le
/-! ### Products -/
def mulLo (a b c d : Rat) : Rat := min (min (min (a * c) (a * d)) (b * c)) (b * d)
def mulHi (a b c d : Rat) : Rat := max (max (max (a * c) (a * d)) (b * c)) (b * d)
theorem SzQ.min {k : Nat} {a b : Rat} (ha : SzQ k a) (hb : SzQ k b) : SzQ k (min a b) := by rw [min_of]; split; (· exact ha); exact hb
theorem SzQ.max {k : Nat} {a b : Rat} (ha : SzQ k a) (hb : SzQ k b) : SzQ k (max a b) := by rw [max_of]; split; (· exact ha); exact hb
end Lw
