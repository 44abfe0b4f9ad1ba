/- Numbers within an interval; the statement about ends that are attained, run. No condition. -/
import Derived.Test.YticigjdakdbbjaaGreatDoorLwTp
namespace Lw
open Go Go.RowKit Go.Proofs

variable {G : World → Prop}

/-! ### within -/
def part (n : Nat) : Rat := Rat.divInt (Int.ofNat n) 255
theorem sz_part {n : Nat} (h : n < 256) : SzQ 1 (part n) := by
  unfold part
  exact sz_divInt (by omega) ((len_le_iff _ 1).2 (by rw [show BP 1 = 4294967296 from rfl]; simp only [Int.ofNat_eq_natCast]; omega)) ((len_le_iff _ 1).2 (by rw [show BP 1 = 4294967296 from rfl]; omega))
theorem part_unit {n : Nat} (h : n < 256) : 0 ≤ part n ∧ part n ≤ 1 := by
  unfold part
  rw [Rat.divInt_eq_div, Rat.div_def]
  have h0 : (0 : Rat) ≤ ((Int.ofNat n : Int) : Rat) := Rat.intCast_nonneg.2 (Int.natCast_nonneg n)
  have h1 : ((Int.ofNat n : Int) : Rat) ≤ ((255 : Int) : Rat) := Rat.intCast_le_intCast.2 (by simp only [Int.ofNat_eq_natCast]; omega)
  have e : ((255 : Int) : Rat) * ((255 : Int) : Rat)⁻¹ = 1 := Rat.mul_inv_cancel _ (by decide +kernel)
  have p : (0 : Rat) ≤ ((255 : Int) : Rat)⁻¹ := by decide +kernel
  refine ⟨Rat.mul_nonneg h0 p, ?_⟩
  have := Rat.mul_le_mul_of_nonneg_right h1 p
  rwa [e] at this
theorem part_mono {m n : Nat} (h : m ≤ n) : part m ≤ part n := by
  unfold part
  rw [Rat.divInt_eq_div, Rat.divInt_eq_div, Rat.div_def, Rat.div_def]
  have h1 : ((Int.ofNat m : Int) : Rat) ≤ ((Int.ofNat n : Int) : Rat) := Rat.intCast_le_intCast.2 (by simp only [Int.ofNat_eq_natCast]; omega)
  exact Rat.mul_le_mul_of_nonneg_right h1 (by decide +kernel)
/-- The number at this part of the way. -/
def wayQ (a b : Rat) (n : Nat) : Rat := a + part n * (b - a)
theorem wayQ_in {a b : Rat} (h : a ≤ b) {n : Nat} (hn : n < 256) : a ≤ wayQ a b n ∧ wayQ a b n ≤ b := by
  unfold wayQ
  obtain ⟨h1, h2⟩ := part_unit hn
  have h3 : 0 ≤ b - a := by grind
  have h4 := Rat.mul_nonneg h1 h3
  have h5 := Rat.mul_le_mul_of_nonneg_right h2 h3
  rw [Rat.one_mul] at h5
  constructor
  · grind
  · grind
theorem wayQ_mono {a b : Rat} (h : a ≤ b) {m n : Nat} (hm : m ≤ n) : wayQ a b m ≤ wayQ a b n := by
  unfold wayQ
  have h3 : 0 ≤ b - a := by grind
  have h5 := Rat.mul_le_mul_of_nonneg_right (part_mono hm) h3
  grind
theorem SzQ.way {k : Nat} {a b : Rat} (ha : SzQ k a) (hb : SzQ k b) {n : Nat} (hn : n < 256) : SzQ (k + (1 + (k + k + 1)) + 1) (wayQ a b n) := ha.add ((sz_part hn).mul (hb.sub ha))
/-! ### IntervalAttains -/
def cmp0 (a b : Rat) : Bool := cmpQ a b == 0
theorem cmp0_iff {a b : Rat} : cmp0 a b = true ↔ b = a := by
  unfold cmp0
  rw [beq_iff_eq, ← cmpQ_sub, sgn_zero]
  constructor
  · intro h; grind
  · intro h; grind
/-- The frame of the inner loop at round j; the flags f. -/
def attIn (r q : RRaw) (x : Raw) (S T M N : Rat) (i j : Nat) (f1 f2 f3 f4 : Bool) : St :=
  lay 113 [(2, .rptr r.cells), (3, .rptr q.cells), (5, .ptr 0 0), (6, .ptr 1 0), (7, bool f1), (8, bool f2), (9, bool f3), (10, bool f4), (12, .ptr 2 0), (47, .row 2 true r.cells), (48, nat 2), (49, nat i), (57, .row 2 true q.cells), (58, nat 2), (59, nat j)]
    [(0, cR S T), (1, cR M N), (2, x.cells)]
def attOut (r q : RRaw) (S T M N : Rat) (i : Nat) (f1 f2 f3 f4 : Bool) : St :=
  lay 113 [(2, .rptr r.cells), (3, .rptr q.cells), (5, .ptr 0 0), (6, .ptr 1 0), (7, bool f1), (8, bool f2), (9, bool f3), (10, bool f4), (47, .row 2 true r.cells), (48, nat 2), (49, nat i)]
    [(0, cR S T), (1, cR M N)]
/-- A flag at round j: it hit so far. -/
def hitF (f c0 c1 : Bool) (j : Nat) : Bool := match j with
  | 0 => f
  | 1 => f || c0
  | _ => (f || c0) || c1
def hit4 (a b c d t : Rat) : Bool := hitF (hitF false (cmp0 a t) (cmp0 b t) 2) (cmp0 c t) (cmp0 d t) 2
theorem hit4_true {a b c d t : Rat} (h : t = a ∨ t = b ∨ t = c ∨ t = d) : hit4 a b c d t = true := by
  show ((((false || cmp0 a t) || cmp0 b t) || cmp0 c t) || cmp0 d t) = true
  simp only [Bool.or_eq_true, cmp0_iff]
  rcases h with h | h | h | h
  · exact .inl (.inl (.inl (.inr h)))
  · exact .inl (.inl (.inr h))
  · exact .inl (.inr h)
  · exact .inr h
end Lw
