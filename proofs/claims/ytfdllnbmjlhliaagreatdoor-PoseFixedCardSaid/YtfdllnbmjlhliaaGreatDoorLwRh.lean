/- The contracts of the intervals' square roots, in the program and in the reference. No condition. -/
import Derived.Test.YtfdllnbmjlhliaaGreatDoorLwRg
namespace Lw
open Go Go.RowKit Go.Proofs

variable {G : World → Prop}

/-! ### Plain laws -/
def twoQ (n : Nat) : Rat := ((((2 ^ n : Nat) : Int)) : Rat)
theorem twoQ_next (i : Nat) : twoQ (i + 1) = twoQ i + twoQ i := by unfold twoQ; rw [two_next, Rat.intCast_add]
theorem twoQ_pos (n : Nat) : 0 < twoQ n := Rat.intCast_pos.2 (by have := Nat.two_pow_pos n; omega)
theorem sz_twoQ {n : Nat} (h : n ≤ 256) : SzQ 9 (twoQ n) := sz_int (by omega) (by rw [Int.natAbs_natCast]; exact len_two h)
def sqQ (n : Nat) : Rat := twoQ n * twoQ n
theorem sqQ_pos (n : Nat) : 0 < sqQ n := Rat.mul_pos (twoQ_pos n) (twoQ_pos n)
/-- The least number whose square is at least t. -/
noncomputable def isqUp (t : Int) : Int := if ((isq t.natAbs : Nat) : Int) * ((isq t.natAbs : Nat) : Int) < t then ((isq t.natAbs : Nat) : Int) + 1 else ((isq t.natAbs : Nat) : Int)
noncomputable def rootLo (a : Rat) (n : Nat) : Rat := (((isq (a * sqQ n).floor.natAbs : Nat) : Int) : Rat) / twoQ n
noncomputable def rootHi (b : Rat) (n : Nat) : Rat := ((isqUp (-(-(b * sqQ n)).floor) : Int) : Rat) / twoQ n
theorem floor_nonneg {a : Rat} (h : 0 ≤ a) : 0 ≤ a.floor := Rat.le_floor_iff.2 h
theorem ceil_cases (T : Rat) : (-(-T).floor = T.floor ∧ (T.floor : Rat) = T) ∨ (-(-T).floor = T.floor + 1 ∧ (T.floor : Rat) < T) := by
  have h1 := Rat.floor_le T
  have h2 := Rat.lt_floor_add_one T
  have h3 := Rat.floor_le (-T)
  have h4 := Rat.lt_floor_add_one (-T)
  rw [Rat.intCast_add] at h2 h4
  generalize hf : T.floor = f at *
  generalize hg : (-T).floor = g at *
  have k1 : ((f + g : Int) : Rat) ≤ ((0 : Int) : Rat) := by rw [Rat.intCast_add]; have : ((0:Int):Rat) = 0 := rfl; grind
  have k2 : ((-2 : Int) : Rat) < ((f + g : Int) : Rat) := by rw [Rat.intCast_add]; have : ((-2:Int):Rat) = -2 := rfl; have : ((1:Int):Rat) = 1 := rfl; grind
  rw [Rat.intCast_le_intCast] at k1
  rw [Rat.intCast_lt_intCast] at k2
  have k3 : f + g = 0 ∨ f + g = -1 := by omega
  rcases k3 with k3 | k3
  · left
    refine ⟨by omega, ?_⟩
    have : g = -f := by omega
    rw [this, Rat.intCast_neg] at h3
    grind
  · right
    refine ⟨by omega, ?_⟩
    have hne : (f : Rat) ≠ T := fun e => by
      rw [← e, ← Rat.intCast_neg, Rat.floor_intCast] at hg
      omega
    exact Rat.lt_of_le_of_ne h1 hne
/-- The reference's way to the same number. -/
theorem up_other {T : Rat} (hT : 0 ≤ T) : isqUp (-(-T).floor) = if (((((isq T.floor.natAbs : Nat) : Int) * ((isq T.floor.natAbs : Nat) : Int) : Int)) : Rat) < T then ((isq T.floor.natAbs : Nat) : Int) + 1 else ((isq T.floor.natAbs : Nat) : Int) := by
  have hf := floor_nonneg hT
  obtain ⟨f, hff⟩ : ∃ f : Nat, T.floor = (f : Int) := ⟨T.floor.natAbs, by omega⟩
  have i1 := isq_le f
  have i2 := isq_lt f
  rcases ceil_cases T with ⟨e, h⟩ | ⟨e, h⟩
  · rw [e]
    unfold isqUp
    rw [hff] at h ⊢
    rw [Int.natAbs_natCast, ← h]
    simp only [Rat.intCast_lt_intCast]
  · rw [e]
    rw [hff] at h ⊢
    rw [Int.natAbs_natCast]
    have hm : ((((isq f : Nat) : Int) * ((isq f : Nat) : Int) : Int) : Rat) < T := by
      have : ((((isq f : Nat) : Int) * ((isq f : Nat) : Int) : Int) : Rat) ≤ ((f : Int) : Rat) := Rat.intCast_le_intCast.2 (by rw [← Int.natCast_mul]; omega)
      grind
    rw [if_pos hm]
    unfold isqUp
    have en : ((f : Int) + 1).natAbs = f + 1 := by omega
    rw [en]
    by_cases hq : (isq f + 1) * (isq f + 1) ≤ f + 1
    · have hi : isq (f + 1) = isq f + 1 := isq_unique hq (by
        have : (isq f + 1 + 1) * (isq f + 1 + 1) = (isq f + 1) * (isq f + 1) + 2 * (isq f + 1) + 1 := by grind
        omega)
      rw [hi, if_neg (by rw [← Int.natCast_mul]; omega)]
      omega
    · have hi : isq (f + 1) = isq f := isq_unique (by omega) (by omega)
      rw [hi, if_pos (by rw [← Int.natCast_mul]; omega)]

/-! ### The scale -/
def zeroI : List D := [bool false, rowW [], rowW [], bool false, rowW [], rowW []]
def cR (a b : Rat) : List D := [bool (rawOf a).s, rowW (rawOf a).n, rowW (rawOf a).d, bool (rawOf b).s, rowW (rawOf b).n, rowW (rawOf b).d]
def rsInv (a c : Rat) (b i : Nat) : St := lay 113 [(2, .ptr 0 0), (4, .ptr 1 0), (6, .ptr 2 0), (33, nat b), (34, nat i)] [(0, cR a c), (1, zeroI), (2, cF (twoQ i))]
def rrsInv (a c : Rat) (b i : Nat) : St := lay 99 [(2, .ptr 0 0), (4, .ptr 1 0), (6, .ptr 2 0), (35, nat b), (36, nat i)] [(0, cR a c), (1, zeroI), (2, cW ((2 ^ i : Nat) : Int))]
/-! ### Root -/
def RK : Nat := 1000000
theorem RK_eq : RK = 1000000 := rfl
theorem szI_of {k : Nat} {i : Int} (h : (words i.natAbs).length ≤ k) (hk : k ≤ KB) : SzI i := by
  rw [KB_eq] at hk
  unfold SzI Sz
  have h30 : (2:Nat) ^ 30 = 1073741824 := by decide
  omega
theorem len_isq (n : Nat) : (words (isq n)).length ≤ (words n).length := len_mono (isq_le_self n)
theorem rat_le_neg {a : Rat} (h : ¬ a < 0) : 0 ≤ a := by rw [Rat.not_lt] at h; exact h
theorem cmpZ_lt_true {i j : Int} (h : i < j) : decide (cmpZ i j < 0) = true := by unfold cmpZ; rw [if_pos h]; rfl
theorem cmpZ_lt_false {i j : Int} (h : ¬ i < j) : decide (cmpZ i j < 0) = false := by unfold cmpZ; rw [if_neg h]; split <;> rfl
theorem cmpQ_lt_true {a b : Rat} (h : a < b) : decide (cmpQ a b < 0) = true := by unfold cmpQ; rw [if_pos h]; rfl
theorem cmpQ_lt_false {a b : Rat} (h : ¬ a < b) : decide (cmpQ a b < 0) = false := by unfold cmpQ; rw [if_neg h]; split <;> rfl
end Lw
