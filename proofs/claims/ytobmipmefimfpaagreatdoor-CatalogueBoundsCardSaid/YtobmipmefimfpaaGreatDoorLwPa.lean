/- Cosines and sines of turns: plain laws. No condition. -/
import Derived.Test.YtobmipmefimfpaaGreatDoorLwTc
namespace Lw
/-- The cosine and the sine of a turn: by the tangent of half its angle, or half a turn. -/
def cosT (t : Rat) (h : Bool) : Rat := if h then -1 else (1 - t * t) / (1 + t * t)
def sinT (t : Rat) (h : Bool) : Rat := if h then 0 else (t + t) / (1 + t * t)
theorem sq_nonneg (t : Rat) : 0 ≤ t * t := by
  rcases Rat.le_total (a := 0) (b := t) with h | h
  · exact Rat.mul_nonneg h h
  · have := Rat.mul_nonneg (a := -t) (b := -t) (by grind) (by grind)
    grind
theorem dnT_ne (t : Rat) : (1 + t * t) ≠ 0 := by have := sq_nonneg t; grind
theorem cosT_mul (t : Rat) : cosT t false * (1 + t * t) = 1 - t * t := Rat.div_mul_cancel (dnT_ne t)
theorem sinT_mul (t : Rat) : sinT t false * (1 + t * t) = t + t := Rat.div_mul_cancel (dnT_ne t)
theorem cancel {a b c : Rat} (hc : c ≠ 0) (h : a * c = b * c) : a = b := by
  have : a * c * c⁻¹ = b * c * c⁻¹ := by rw [h]
  rwa [Rat.mul_assoc, Rat.mul_assoc, Rat.mul_inv_cancel c hc, Rat.mul_one, Rat.mul_one] at this
theorem unit_T (t : Rat) (h : Bool) : cosT t h * cosT t h + sinT t h * sinT t h = 1 := by
  cases h with
  | true => unfold cosT sinT; simp only [if_true]; grind
  | false =>
    have hd := dnT_ne t
    have hc := cosT_mul t
    have hs := sinT_mul t
    generalize cosT t false = c at *
    generalize sinT t false = s at *
    grind
theorem tan_of {s d : Rat} (hd : d ≠ 0) : s / d * d = s := Rat.div_mul_cancel hd
/-- The turn behind another one. -/
def addTt (t : Rat) (h : Bool) (u : Rat) (g : Bool) : Rat :=
  if h && g then 0 else if g then (if t = 0 then 0 else -1 / t) else if h then (if u = 0 then 0 else -1 / u) else if 1 - t * u = 0 then 0 else (t + u) / (1 - t * u)
def addTh (t : Rat) (h : Bool) (u : Rat) (g : Bool) : Bool :=
  if h && g then false else if g then decide (t = 0) else if h then decide (u = 0) else decide (1 - t * u = 0)
theorem cosT_zero : cosT 0 false = 1 := by have h := cosT_mul 0; rw [Rat.mul_zero] at h; grind
theorem sinT_zero : sinT 0 false = 0 := by have h := sinT_mul 0; rw [Rat.mul_zero] at h; grind
theorem cosT_half (t : Rat) : cosT t true = -1 := rfl
theorem sinT_half (t : Rat) : sinT t true = 0 := rfl
/-- The half turn behind a turn. -/
theorem opp (t : Rat) (ht : t ≠ 0) : cosT (-1 / t) false = - cosT t false ∧ sinT (-1 / t) false = - sinT t false := by
  have e : -1 / t * t = -1 := Rat.div_mul_cancel ht
  have hC := cosT_mul (-1 / t)
  have hS := sinT_mul (-1 / t)
  have hc := cosT_mul t
  have hs := sinT_mul t
  have hd := dnT_ne t
  have hD := dnT_ne (-1 / t)
  generalize cosT (-1 / t) false = C at *
  generalize sinT (-1 / t) false = S at *
  generalize cosT t false = c at *
  generalize sinT t false = s at *
  generalize -1 / t = T at *
  have k : (1 + T * T) * (t * t) = 1 + t * t := by grind
  have k1 : C * ((1 + T * T) * (t * t)) = (1 - T * T) * (t * t) := by grind
  have k2 : S * ((1 + T * T) * (t * t)) = (T + T) * (t * t) := by grind
  rw [k] at k1 k2
  constructor
  · refine cancel hd ?_
    rw [k1]
    grind
  · refine cancel hd ?_
    rw [k2]
    grind
theorem add_gen (t u : Rat) (hd : 1 - t * u ≠ 0) : cosT ((t + u) / (1 - t * u)) false = cosT t false * cosT u false - sinT t false * sinT u false ∧ sinT ((t + u) / (1 - t * u)) false = sinT t false * cosT u false + cosT t false * sinT u false := by
  have e : (t + u) / (1 - t * u) * (1 - t * u) = t + u := Rat.div_mul_cancel hd
  have hC := cosT_mul ((t + u) / (1 - t * u))
  have hS := sinT_mul ((t + u) / (1 - t * u))
  have hc := cosT_mul t
  have hs := sinT_mul t
  have hc' := cosT_mul u
  have hs' := sinT_mul u
  have n1 := dnT_ne t
  have n2 := dnT_ne u
  generalize cosT ((t + u) / (1 - t * u)) false = C at *
  generalize sinT ((t + u) / (1 - t * u)) false = S at *
  generalize cosT t false = c at *
  generalize sinT t false = s at *
  generalize cosT u false = c' at *
  generalize sinT u false = s' at *
  generalize (t + u) / (1 - t * u) = T at *
  have n3 : (1 + t * t) * (1 + u * u) ≠ 0 := fun h => by
    rcases Rat.mul_eq_zero.1 h with h | h
    · exact n1 h
    · exact n2 h
  have k : (1 + T * T) * ((1 - t * u) * (1 - t * u)) = (1 + t * t) * (1 + u * u) := by
    have : T * (1 - t * u) * (T * (1 - t * u)) = (t + u) * (t + u) := by rw [e]
    grind
  have k1 : C * ((1 + T * T) * ((1 - t * u) * (1 - t * u))) = (1 - t * u) * (1 - t * u) - (t + u) * (t + u) := by
    have : T * (1 - t * u) * (T * (1 - t * u)) = (t + u) * (t + u) := by rw [e]
    have h2 : C * (1 + T * T) * ((1 - t * u) * (1 - t * u)) = (1 - T * T) * ((1 - t * u) * (1 - t * u)) := by rw [hC]
    grind
  have k2 : S * ((1 + T * T) * ((1 - t * u) * (1 - t * u))) = (t + u + (t + u)) * (1 - t * u) := by
    have h2 : S * (1 + T * T) * ((1 - t * u) * (1 - t * u)) = (T + T) * ((1 - t * u) * (1 - t * u)) := by rw [hS]
    have h3 : T * (1 - t * u) * (1 - t * u) = (t + u) * (1 - t * u) := by rw [e]
    grind
  rw [k] at k1 k2
  have m1 : c * (1 + t * t) * (c' * (1 + u * u)) = (1 - t * t) * (1 - u * u) := by rw [hc, hc']
  have m2 : s * (1 + t * t) * (s' * (1 + u * u)) = (t + t) * (u + u) := by rw [hs, hs']
  have m3 : s * (1 + t * t) * (c' * (1 + u * u)) = (t + t) * (1 - u * u) := by rw [hs, hc']
  have m4 : c * (1 + t * t) * (s' * (1 + u * u)) = (1 - t * t) * (u + u) := by rw [hc, hs']
  constructor
  · refine cancel n3 ?_
    rw [k1]
    grind
  · refine cancel n3 ?_
    rw [k2]
    grind
theorem add_perp (t u : Rat) (hd : 1 - t * u = 0) : cosT t false * cosT u false - sinT t false * sinT u false = -1 ∧ sinT t false * cosT u false + cosT t false * sinT u false = 0 := by
  have hc := cosT_mul t
  have hs := sinT_mul t
  have hc' := cosT_mul u
  have hs' := sinT_mul u
  have n1 := dnT_ne t
  have n2 := dnT_ne u
  generalize cosT t false = c at *
  generalize sinT t false = s at *
  generalize cosT u false = c' at *
  generalize sinT u false = s' at *
  have n3 : (1 + t * t) * (1 + u * u) ≠ 0 := fun h => by
    rcases Rat.mul_eq_zero.1 h with h | h
    · exact n1 h
    · exact n2 h
  have m1 : c * (1 + t * t) * (c' * (1 + u * u)) = (1 - t * t) * (1 - u * u) := by rw [hc, hc']
  have m2 : s * (1 + t * t) * (s' * (1 + u * u)) = (t + t) * (u + u) := by rw [hs, hs']
  have m3 : s * (1 + t * t) * (c' * (1 + u * u)) = (t + t) * (1 - u * u) := by rw [hs, hc']
  have m4 : c * (1 + t * t) * (s' * (1 + u * u)) = (1 - t * t) * (u + u) := by rw [hc, hs']
  have tu : t * u = 1 := by grind
  have tu2 : (t * u) * (t * u) = 1 := by rw [tu, Rat.one_mul]
  have tu3 : t * (t * u) = t := by rw [tu, Rat.mul_one]
  have tu4 : u * (t * u) = u := by rw [tu, Rat.mul_one]
  constructor
  · refine cancel n3 ?_
    grind
  · refine cancel n3 ?_
    grind
/-- Cosines and sines of sums. -/
theorem turn_add {t u : Rat} {h g : Bool} (vt : h = true → t = 0) (vu : g = true → u = 0) :
    cosT (addTt t h u g) (addTh t h u g) = cosT t h * cosT u g - sinT t h * sinT u g ∧ sinT (addTt t h u g) (addTh t h u g) = sinT t h * cosT u g + cosT t h * sinT u g := by
  unfold addTt addTh
  cases h <;> cases g <;> simp only [Bool.and_self, Bool.and_true, Bool.and_false, Bool.false_eq_true, if_true, if_false]
  · by_cases hd : 1 - t * u = 0
    · rw [if_pos hd, decide_eq_true hd, cosT_half, sinT_half]
      obtain ⟨a, b⟩ := add_perp t u hd
      exact ⟨a.symm, b.symm⟩
    · rw [if_neg hd, decide_eq_false hd]
      exact add_gen t u hd
  · by_cases ht : t = 0
    · rw [if_pos ht, decide_eq_true ht]
      subst ht
      rw [cosT_half, sinT_half, cosT_zero, sinT_zero, cosT_half, sinT_half]
      grind
    · rw [if_neg ht, decide_eq_false ht, (opp t ht).1, (opp t ht).2, cosT_half, sinT_half]
      grind
  · by_cases ht : u = 0
    · rw [if_pos ht, decide_eq_true ht]
      subst ht
      rw [cosT_half, sinT_half, cosT_zero, sinT_zero, cosT_half, sinT_half]
      grind
    · rw [if_neg ht, decide_eq_false ht, (opp u ht).1, (opp u ht).2, cosT_half, sinT_half]
      grind
  · rw [cosT_zero, sinT_zero]
    simp only [cosT_half, sinT_half]
    grind
theorem addT_valid {t u : Rat} {h g : Bool} : addTh t h u g = true → addTt t h u g = 0 := by
  unfold addTt addTh
  cases h <;> cases g <;> simp only [Bool.and_self, Bool.and_true, Bool.and_false, Bool.false_eq_true, if_true, if_false, decide_eq_true_eq]
  all_goals (intro hh; first | rw [if_pos hh] | cases hh)
/-- A valid turn is known by its cosine and sine. -/
theorem turn_ext {t u : Rat} {h g : Bool} (vt : h = true → t = 0) (vu : g = true → u = 0) (hc : cosT t h = cosT u g) (hs : sinT t h = sinT u g) : t = u ∧ h = g := by
  have key : ∀ t : Rat, cosT t false ≠ -1 := fun t e => by
    have := cosT_mul t
    rw [e] at this
    grind
  cases h with
  | true =>
    cases g with
    | true => exact ⟨by rw [vt rfl, vu rfl], rfl⟩
    | false => rw [cosT_half] at hc; exact absurd hc.symm (key u)
  | false =>
    cases g with
    | true => rw [cosT_half] at hc; exact absurd hc (key t)
    | false =>
      refine ⟨?_, rfl⟩
      have a1 := cosT_mul t
      have a2 := sinT_mul t
      have b1 := cosT_mul u
      have b2 := sinT_mul u
      have kt := key t
      rw [← hc] at b1
      rw [← hs] at b2
      generalize cosT t false = c at *
      generalize sinT t false = s at *
      have e1 : t * (1 + c) = s := by
        refine cancel (dnT_ne t) ?_
        grind
      have e2 : u * (1 + c) = s := by
        refine cancel (dnT_ne u) ?_
        grind
      exact cancel (c := 1 + c) (by grind) (e1.trans e2.symm)
theorem cosT_one {t : Rat} {h : Bool} : cosT t h = 1 ↔ h = false ∧ t = 0 := by
  constructor
  · intro e
    cases h with
    | true => rw [cosT_half] at e; exact absurd e (by decide +kernel)
    | false =>
      have a := cosT_mul t
      rw [e] at a
      have : t * t = 0 := by grind
      rcases Rat.mul_eq_zero.1 this with q | q
      · exact ⟨rfl, q⟩
      · exact ⟨rfl, q⟩
  · rintro ⟨rfl, rfl⟩
    exact cosT_zero
/-- The place that a displacement leaves, by its move (X, Y). -/
def fixX (t : Rat) (h : Bool) (X Y : Rat) : Rat := ((1 - cosT t h) * X - sinT t h * Y) / (2 * (1 - cosT t h))
def fixY (t : Rat) (h : Bool) (X Y : Rat) : Rat := ((1 - cosT t h) * Y + sinT t h * X) / (2 * (1 - cosT t h))
theorem fix_ne {t : Rat} {h : Bool} (hn : ¬ (h = false ∧ t = 0)) : 2 * (1 - cosT t h) ≠ 0 := fun e => hn (cosT_one.1 (by grind))
theorem fix_fixed {t : Rat} {h : Bool} (hn : ¬ (h = false ∧ t = 0)) (X Y : Rat) :
    cosT t h * fixX t h X Y - sinT t h * fixY t h X Y + X = fixX t h X Y ∧ sinT t h * fixX t h X Y + cosT t h * fixY t h X Y + Y = fixY t h X Y := by
  have hd := fix_ne hn
  have e1 : fixX t h X Y * (2 * (1 - cosT t h)) = (1 - cosT t h) * X - sinT t h * Y := Rat.div_mul_cancel hd
  have e2 : fixY t h X Y * (2 * (1 - cosT t h)) = (1 - cosT t h) * Y + sinT t h * X := Rat.div_mul_cancel hd
  have hu := unit_T t h
  generalize fixX t h X Y = x at *
  generalize fixY t h X Y = y at *
  generalize cosT t h = c at *
  generalize sinT t h = s at *
  have m1 : (x * (2 * (1 - c))) * (c - 1) = ((1 - c) * X - s * Y) * (c - 1) := by rw [e1]
  have m2 : (y * (2 * (1 - c))) * s = ((1 - c) * Y + s * X) * s := by rw [e2]
  have m3 : (x * (2 * (1 - c))) * s = ((1 - c) * X - s * Y) * s := by rw [e1]
  have m4 : (y * (2 * (1 - c))) * (c - 1) = ((1 - c) * Y + s * X) * (c - 1) := by rw [e2]
  have u1 : (c * c + s * s) * X = X := by rw [hu, Rat.one_mul]
  have u2 : (c * c + s * s) * Y = Y := by rw [hu, Rat.one_mul]
  constructor
  · refine cancel hd ?_
    grind
  · refine cancel hd ?_
    grind
theorem fix_only {t : Rat} {h : Bool} (hn : ¬ (h = false ∧ t = 0)) {X Y x y : Rat} (h1 : cosT t h * x - sinT t h * y + X = x) (h2 : sinT t h * x + cosT t h * y + Y = y) : x = fixX t h X Y ∧ y = fixY t h X Y := by
  have hd := fix_ne hn
  have e1 : fixX t h X Y * (2 * (1 - cosT t h)) = (1 - cosT t h) * X - sinT t h * Y := Rat.div_mul_cancel hd
  have e2 : fixY t h X Y * (2 * (1 - cosT t h)) = (1 - cosT t h) * Y + sinT t h * X := Rat.div_mul_cancel hd
  have hu := unit_T t h
  generalize fixX t h X Y = p at *
  generalize fixY t h X Y = q at *
  generalize cosT t h = c at *
  generalize sinT t h = s at *
  have k1 : X = x - c * x + s * y := by grind
  have k2 : Y = y - s * x - c * y := by grind
  subst k1 k2
  have u1 : (c * c + s * s) * x = x := by rw [hu, Rat.one_mul]
  have u2 : (c * c + s * s) * y = y := by rw [hu, Rat.one_mul]
  constructor
  · refine cancel hd ?_
    grind
  · refine cancel hd ?_
    grind
/-- The reference's form of the fixed place. -/
def cotT (t : Rat) (h : Bool) : Rat := if h then 0 else (1 / 2) / t
theorem fix_ref {t : Rat} {h : Bool} (vt : h = true → t = 0) (hn : ¬ (h = false ∧ t = 0)) (X Y : Rat) :
    fixX t h X Y = 1 / 2 * X - cotT t h * Y ∧ fixY t h X Y = 1 / 2 * Y + cotT t h * X := by
  have hd := fix_ne hn
  have e1 : fixX t h X Y * (2 * (1 - cosT t h)) = (1 - cosT t h) * X - sinT t h * Y := Rat.div_mul_cancel hd
  have e2 : fixY t h X Y * (2 * (1 - cosT t h)) = (1 - cosT t h) * Y + sinT t h * X := Rat.div_mul_cancel hd
  have half : (1 : Rat) / 2 * 2 = 1 := Rat.div_mul_cancel (by decide +kernel)
  have key : cotT t h * (2 * (1 - cosT t h)) = sinT t h := by
    cases h with
    | true =>
      rw [cosT_half, sinT_half]
      show (0 : Rat) * _ = 0
      rw [Rat.zero_mul]
    | false =>
      have ht : t ≠ 0 := fun e => hn ⟨rfl, e⟩
      have hk : cotT t false * t = 1 / 2 := Rat.div_mul_cancel ht
      have a1 := cosT_mul t
      have a2 := sinT_mul t
      generalize cotT t false = k at *
      generalize cosT t false = c at *
      generalize sinT t false = s at *
      generalize (1 : Rat) / 2 = w at *
      refine cancel (dnT_ne t) ?_
      have b1 : k * t * t = w * t := by rw [hk]
      have b2 : w * 2 * t = t := by rw [half, Rat.one_mul]
      have b3 : k * (c * (1 + t * t)) = k * (1 - t * t) := by rw [a1]
      grind
  generalize fixX t h X Y = p at *
  generalize fixY t h X Y = q at *
  generalize cotT t h = k at *
  generalize cosT t h = c at *
  generalize sinT t h = s at *
  generalize (1 : Rat) / 2 = w at *
  have b1 : w * 2 * X = X := by rw [half, Rat.one_mul]
  have b2 : w * 2 * Y = Y := by rw [half, Rat.one_mul]
  have b3 : w * 2 * (c * X) = c * X := by rw [half, Rat.one_mul]
  have b4 : w * 2 * (c * Y) = c * Y := by rw [half, Rat.one_mul]
  have b5 : k * (2 * (1 - c)) * X = s * X := by rw [key]
  have b6 : k * (2 * (1 - c)) * Y = s * Y := by rw [key]
  constructor
  · refine cancel hd ?_
    grind
  · refine cancel hd ?_
    grind
theorem dist_keep {c s : Rat} (hu : c * c + s * s = 1) (X Y a b x y : Rat) :
    ((c * a - s * b + X) - (c * x - s * y + X)) * ((c * a - s * b + X) - (c * x - s * y + X)) + ((s * a + c * b + Y) - (s * x + c * y + Y)) * ((s * a + c * b + Y) - (s * x + c * y + Y)) = (a - x) * (a - x) + (b - y) * (b - y) := by
  have u1 : (c * c + s * s) * ((a - x) * (a - x) + (b - y) * (b - y)) = (a - x) * (a - x) + (b - y) * (b - y) := by rw [hu, Rat.one_mul]
  rw [← u1]
  grind
theorem cross_keep {c s : Rat} (hu : c * c + s * s = 1) (X Y a b x y p q : Rat) :
    ((c * x - s * y + X) - (c * a - s * b + X)) * ((s * p + c * q + Y) - (s * a + c * b + Y)) - ((s * x + c * y + Y) - (s * a + c * b + Y)) * ((c * p - s * q + X) - (c * a - s * b + X)) = (x - a) * (q - b) - (y - b) * (p - a) := by
  have u1 : (c * c + s * s) * ((x - a) * (q - b) - (y - b) * (p - a)) = (x - a) * (q - b) - (y - b) * (p - a) := by rw [hu, Rat.one_mul]
  rw [← u1]
  grind
end Lw

namespace Lw
open Go Go.RowKit Go.Proofs

variable {G : World → Prop}

/-- Valid data is the canonical one. -/
theorem Raw.canon {r : Raw} (h : r.valid = true) : r = rawOf r.q := by
  unfold Raw.valid at h
  split at h
  · rename_i h0
    obtain ⟨s, n, d⟩ := r
    obtain ⟨h1, h2⟩ := h0
    have h1 : n = [] := h1
    have h2 : d = [] := h2
    subst h1 h2
    have hs : s = false := by simpa using h
    subst hs
    rw [Raw.q_zero (fun g => g.1 rfl)]
    rfl
  · have hg : r.good := of_decide_eq_true h
    have hp := Raw.good_num hg
    obtain ⟨e1, e2⟩ := Raw.q_parts hg
    obtain ⟨-, -, g1, g2, -⟩ := hg
    have hn : r.q.num ≠ 0 := fun e => by
      have := mkI_abs r.s (val r.n)
      rw [← e1, e] at this
      have h0 : (0 : Int).natAbs = 0 := rfl
      omega
    unfold rawOf
    rw [if_neg hn, e1, e2, mkI_abs, ← g1, ← g2]
    have hs : decide (mkI r.s (val r.n) < 0) = r.s := by
      cases r.s with
      | true => exact decide_eq_true (by show -(val r.n : Int) < 0; omega)
      | false => exact decide_eq_false (by show ¬ (val r.n : Int) < 0; omega)
    rw [hs]
structure RTn where
  t : Raw
  h : Bool
structure RPl where
  x : Raw
  y : Raw
structure RPo where
  u : RTn
  a : RPl
def RTn.cells (r : RTn) : List D := [bool r.t.s, rowW r.t.n, rowW r.t.d, bool r.h]
def RPl.cells (r : RPl) : List D := [bool r.x.s, rowW r.x.n, rowW r.x.d, bool r.y.s, rowW r.y.n, rowW r.y.d]
def RPo.cells (r : RPo) : List D := [bool r.u.t.s, rowW r.u.t.n, rowW r.u.t.d, bool r.u.h, bool r.a.x.s, rowW r.a.x.n, rowW r.a.x.d, bool r.a.y.s, rowW r.a.y.n, rowW r.a.y.d]
def RTn.dat (r : RTn) : D := .agg r.cells
def RPl.dat (r : RPl) : D := .agg r.cells
def RPo.dat (r : RPo) : D := .agg r.cells
def RTn.ok (k : Nat) (r : RTn) : Prop := r.t.ok k
def RPl.ok (k : Nat) (r : RPl) : Prop := r.x.ok k ∧ r.y.ok k
def RPo.ok (k : Nat) (r : RPo) : Prop := r.u.ok k ∧ r.a.ok k
def RTn.valid (r : RTn) : Bool := r.t.valid && !(r.h && decide (r.t.q ≠ 0))
def RPl.valid (r : RPl) : Bool := r.x.valid && r.y.valid
def RPo.valid (r : RPo) : Bool := r.u.valid && r.a.valid
/-- Canonical data. -/
def FTn (t : Rat) (h : Bool) : D := (RTn.mk (rawOf t) h).dat
def FPl (x y : Rat) : D := (RPl.mk (rawOf x) (rawOf y)).dat
def FPo (t : Rat) (h : Bool) (x y : Rat) : D := (RPo.mk ⟨rawOf t, h⟩ ⟨rawOf x, rawOf y⟩).dat
theorem RTn.canon {r : RTn} (h : r.valid = true) : r.dat = FTn r.t.q r.h ∧ (r.h = true → r.t.q = 0) := by
  unfold RTn.valid at h
  simp only [Bool.and_eq_true, Bool.not_eq_true', Bool.and_eq_false_iff, decide_eq_false_iff_not, Decidable.not_not] at h
  obtain ⟨h1, h2⟩ := h
  refine ⟨?_, fun e => ?_⟩
  · unfold FTn
    rw [← Raw.canon h1]
  · rcases h2 with h2 | h2
    · rw [e] at h2; cases h2
    · exact h2
theorem RPl.canon {r : RPl} (h : r.valid = true) : r.dat = FPl r.x.q r.y.q := by
  unfold RPl.valid at h
  simp only [Bool.and_eq_true] at h
  unfold FPl
  rw [← Raw.canon h.1, ← Raw.canon h.2]
theorem RPo.canon {r : RPo} (h : r.valid = true) : r.dat = FPo r.u.t.q r.u.h r.a.x.q r.a.y.q ∧ (r.u.h = true → r.u.t.q = 0) := by
  unfold RPo.valid at h
  simp only [Bool.and_eq_true] at h
  obtain ⟨h1, h2⟩ := h
  have h3 := (RTn.canon h1).2
  unfold RTn.valid at h1
  unfold RPl.valid at h2
  simp only [Bool.and_eq_true] at h1 h2
  refine ⟨?_, h3⟩
  unfold FPo
  rw [← Raw.canon h1.1, ← Raw.canon h2.1, ← Raw.canon h2.2]
theorem rawOf_ok {k : Nat} {q : Rat} (h : SzQ k q) : (rawOf q).ok k := h.ok
theorem FTn_valid {t : Rat} {h : Bool} (v : h = true → t = 0) : (RTn.mk (rawOf t) h).valid = true := by
  unfold RTn.valid
  simp only [rawOf_valid, rawOf_q, Bool.true_and]
  cases h with
  | false => rfl
  | true => rw [v rfl]; rfl
theorem FPl_valid (x y : Rat) : (RPl.mk (rawOf x) (rawOf y)).valid = true := by
  unfold RPl.valid
  simp only [rawOf_valid, Bool.and_self]
theorem FPo_valid {t x y : Rat} {h : Bool} (v : h = true → t = 0) : (RPo.mk ⟨rawOf t, h⟩ ⟨rawOf x, rawOf y⟩).valid = true := by
  unfold RPo.valid
  simp only [FTn_valid v, FPl_valid, Bool.and_self]
end Lw
