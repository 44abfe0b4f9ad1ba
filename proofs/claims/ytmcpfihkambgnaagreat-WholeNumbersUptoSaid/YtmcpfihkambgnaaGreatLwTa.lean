/- The texts of small numbers. No condition. -/
import Derived.Test.YtmcpfihkambgnaaGreatLwRa
namespace Lw
open Go Go.RowKit Go.Proofs

variable {G : World → Prop}

def txt (l : List UInt8) : D := .lit (.string ⟨l.toArray⟩)
theorem len_small {n : Nat} (h : n < 1000000000) : (words n).length ≤ 2 ^ 36 := by
  have hl : (words n).length ≤ 1 := (len_le_iff n 1).2 (by rw [show BP 1 = 4294967296 from rfl]; omega)
  have : (2:Nat) ^ 36 = 68719476736 := by decide
  omega
theorem short_nine (hG : Steady G) {n : Nat} (h : n < 1000000000) : Spec Tryz.prog G 232 [rowW (words n), u32 1000000000] (.tup [rowW [], u32 n]) := by
  have := short_spec (G := G) hG (dig_words n) (d := 1000000000) (by omega) (by omega) (len_small h)
  rw [val_words, Nat.div_eq_of_lt h, Nat.mod_eq_of_lt h] at this
  exact this
/-! ### Texts of fractions -/
def q14 : Rat := Rat.divInt 1 4
def q34 : Rat := Rat.divInt 3 4
def q32 : Rat := Rat.divInt 3 2
def q118 : Rat := Rat.divInt 11 8
theorem szI_lit {n : Nat} (h : n < 4294967296) : SzI (n : Int) := szI_small (by omega) (by omega)
theorem sq14 : SzQ 1 q14 := by unfold SzQ; decide +kernel
theorem sq34 : SzQ 1 q34 := by unfold SzQ; decide +kernel
theorem sq32 : SzQ 1 q32 := by unfold SzQ; decide +kernel
theorem sq118 : SzQ 1 q118 := by unfold SzQ; decide +kernel
theorem sz_lit {k : Nat} {n : Int} (h0 : 0 < k) (h : -4294967296 < n) (h' : n < 4294967296) : SzQ k (n : Rat) := sz_int h0 (Nat.le_trans ((len_le_iff _ 1).2 (by rw [show BP 1 = 4294967296 from rfl]; omega)) h0)
/-! ### Texts of intervals -/
theorem clean_FR (hG : Steady G) {k : Nat} {a b : Rat} (ha : SzQ k a) (hb : SzQ k b) (h : a ≤ b) (hk : k ≤ KB) : Spec Tryz.prog G 69 [FR a b] (FR a b) := clean_spec hG (FR_isI ha hb h) hk
/-! ### awake -/
theorem isI_lit {i j : Int} (h : -4294967296 < i) (h' : i < 4294967296) (g : -4294967296 < j) (g' : j < 4294967296) (hij : i ≤ j) : IsI 1 (FR (i : Rat) (j : Rat)) (i : Rat) (j : Rat) :=
  FR_isI (sz_lit (by omega) h h') (sz_lit (by omega) g g') (Rat.intCast_le_intCast.2 hij)
def q13 : Rat := Rat.divInt 1 3
theorem sq13 : SzQ 1 q13 := by unfold SzQ; decide +kernel
end Lw

namespace Lw
open Go Go.RowKit Go.Proofs

variable {G : World → Prop}

/-! ### short -/
def RRaw.cells (r : RRaw) : List D := [bool r.lo.s, rowW r.lo.n, rowW r.lo.d, bool r.hi.s, rowW r.hi.n, rowW r.hi.d]
def RRaw.short (r : RRaw) : Bool := decide (r.lo.n.length ≤ 8) && (decide (r.lo.d.length ≤ 8) && (decide (r.hi.n.length ≤ 8) && decide (r.hi.d.length ≤ 8)))
theorem gt8_true {n : Nat} (h : ¬ n ≤ 8) : decide (Int.ofNat n > 8) = true := by simp only [Int.ofNat_eq_natCast, decide_eq_true_eq]; omega
theorem gt8_false {n : Nat} (h : n ≤ 8) : decide (Int.ofNat n > 8) = false := by simp only [Int.ofNat_eq_natCast, decide_eq_false_iff_not]; omega
def RRaw.digs (r : RRaw) : Prop := Dig r.lo.n ∧ Dig r.lo.d ∧ Dig r.hi.n ∧ Dig r.hi.d
theorem RRaw.short_ok {r : RRaw} (hd : r.digs) (h : r.short = true) : r.ok 8 := by
  unfold RRaw.short at h
  simp only [Bool.and_eq_true, decide_eq_true_eq] at h
  obtain ⟨d1, d2, d3, d4⟩ := hd
  exact ⟨⟨d1, d2, h.1, h.2.1, by omega⟩, ⟨d3, d4, h.2.2.1, h.2.2.2, by omega⟩⟩
theorem RRaw.isI {r : RRaw} {k : Nat} (h : r.ok k) : IsI k r.dat r.L r.H := ⟨r, rfl, h, rfl, rfl⟩

/-! ### Sizes of roots -/
theorem isqUp_le {T : Int} (h : 0 ≤ T) : (words (isqUp T).natAbs).length ≤ (words T.natAbs).length + 1 := by
  unfold isqUp
  have h1 := len_isq T.natAbs
  split
  · have := len_addI (a := ((isq T.natAbs : Nat) : Int)) (b := 1)
    have e1 : (words (1 : Int).natAbs).length = 1 := rfl
    rw [Int.natAbs_natCast] at this
    have h3 : 0 < (words T.natAbs).length ∨ T = 0 := by
      by_cases ht : T = 0
      · exact .inr ht
      · exact .inl (words_len_pos (by omega))
    rcases h3 with h3 | h3
    · omega
    · subst h3
      rename_i hlt
      rw [show (0 : Int).natAbs = 0 from rfl, isq_zero] at hlt
      exact absurd hlt (by omega)
  · rw [Int.natAbs_natCast]; omega
theorem SzQ.root {k b : Nat} {lo hi : Rat} (ha : SzQ k lo) (hb : SzQ k hi) (h0 : 0 ≤ hi) (hn : b ≤ 256) : SzQ (k + 18 + 1 + 9) (rootLo lo b) ∧ SzQ (k + 18 + 1 + 9) (rootHi hi b) := by
  have s2 := sz_twoQ hn
  have ssq : SzQ (9 + 9) (sqQ b) := s2.mul s2
  have la := sz_floor (ha.mul ssq)
  have lb := sz_floor (hb.mul ssq).neg
  have l1 := len_isq (lo * sqQ b).floor.natAbs
  have p3 : 0 ≤ -(-(hi * sqQ b)).floor := by
    have := floor_nonneg (Rat.mul_nonneg h0 (Rat.le_of_lt (sqQ_pos b)))
    rcases ceil_cases (hi * sqQ b) with ⟨e, -⟩ | ⟨e, -⟩ <;> omega
  have l2 := isqUp_le p3
  rw [Int.natAbs_neg] at l2
  unfold rootLo rootHi
  exact ⟨(sz_int (k := k + 18 + 1) (by omega) (by rw [Int.natAbs_natCast]; omega)).div s2, (sz_int (k := k + 18 + 1) (by omega) (by omega)).div s2⟩

/-! ### The statement -/
theorem sz_fr0 {k : Nat} (h : 0 < k) : SzQ k 0 := sz_zero h
end Lw
