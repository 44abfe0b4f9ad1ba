/- Freudenstein's equation: plain laws. No condition. -/
import Derived.Test.YtobmipmefimfpaaGreatDoorLwGb
namespace Lw
open Go Go.RowKit Go.Proofs

/-- The coefficients and the right side of a pair's equation. -/
structure Rw where
  a : Rat
  b : Rat
  v : Rat
def det2 (a b c d : Rat) : Rat := a * d - b * c
def Rw.n (x y z : Rw) : Rat := det2 (y.a - x.a) (y.b - x.b) (z.a - x.a) (z.b - x.b)
def Rw.n1 (x y z : Rw) : Rat := det2 (y.v - x.v) (y.b - x.b) (z.v - x.v) (z.b - x.b)
def Rw.n2 (x y z : Rw) : Rat := det2 (y.a - x.a) (y.v - x.v) (z.a - x.a) (z.v - x.v)
def Rw.k1 (x y z : Rw) : Rat := Rw.n1 x y z / Rw.n x y z
def Rw.k2 (x y z : Rw) : Rat := Rw.n2 x y z / Rw.n x y z
def Rw.k3 (x y z : Rw) : Rat := x.v - (x.a * Rw.k1 x y z + x.b * Rw.k2 x y z)
/-- A determinant of three rows by its first column. -/
def det3 (a b c d e f g h i : Rat) : Rat := 0 + a * (e * i - f * h) + d * (h * c - i * b) + g * (b * f - c * e)
theorem det3_n (x y z : Rw) : det3 x.a x.b 1 y.a y.b 1 z.a z.b 1 = Rw.n x y z := by unfold det3 Rw.n det2; grind
theorem det3_n1 (x y z : Rw) : det3 x.v x.b 1 y.v y.b 1 z.v z.b 1 = Rw.n1 x y z := by unfold det3 Rw.n1 det2; grind
theorem det3_n2 (x y z : Rw) : det3 x.a x.v 1 y.a y.v 1 z.a z.v 1 = Rw.n2 x y z := by unfold det3 Rw.n2 det2; grind
theorem k1_mul {x y z : Rw} (h : Rw.n x y z ≠ 0) : Rw.k1 x y z * Rw.n x y z = Rw.n1 x y z := Rat.div_mul_cancel h
theorem k2_mul {x y z : Rw} (h : Rw.n x y z ≠ 0) : Rw.k2 x y z * Rw.n x y z = Rw.n2 x y z := Rat.div_mul_cancel h
theorem k3_mul {x y z : Rw} (h : Rw.n x y z ≠ 0) : Rw.k3 x y z * Rw.n x y z = det3 x.a x.b x.v y.a y.b y.v z.a z.b z.v := by
  have h1 := k1_mul h
  have h2 := k2_mul h
  unfold Rw.k3
  generalize Rw.k1 x y z = k at *
  generalize Rw.k2 x y z = m at *
  have e : (x.v - (x.a * k + x.b * m)) * Rw.n x y z = x.v * Rw.n x y z - x.a * (k * Rw.n x y z) - x.b * (m * Rw.n x y z) := by grind
  rw [e, h1, h2]
  unfold det3 Rw.n Rw.n1 Rw.n2 det2
  grind
theorem k3_div {x y z : Rw} (h : Rw.n x y z ≠ 0) : det3 x.a x.b x.v y.a y.b y.v z.a z.b z.v / Rw.n x y z = Rw.k3 x y z := by
  refine cancel h ?_
  rw [k3_mul h, Rat.div_mul_cancel h]
/-- What the ratios satisfy. -/
theorem k_sat {x y z : Rw} (h : Rw.n x y z ≠ 0) : (x.a * Rw.k1 x y z + x.b * Rw.k2 x y z + Rw.k3 x y z = x.v) ∧ (y.a * Rw.k1 x y z + y.b * Rw.k2 x y z + Rw.k3 x y z = y.v) ∧ (z.a * Rw.k1 x y z + z.b * Rw.k2 x y z + Rw.k3 x y z = z.v) := by
  have h1 := k1_mul h
  have h2 := k2_mul h
  unfold Rw.k3
  generalize Rw.k1 x y z = k at *
  generalize Rw.k2 x y z = m at *
  refine ⟨by grind, ?_, ?_⟩
  · refine cancel h ?_
    have e : (y.a * k + y.b * m + (x.v - (x.a * k + x.b * m))) * Rw.n x y z = (y.a - x.a) * (k * Rw.n x y z) + (y.b - x.b) * (m * Rw.n x y z) + x.v * Rw.n x y z := by grind
    rw [e, h1, h2]
    unfold Rw.n Rw.n1 Rw.n2 det2
    grind
  · refine cancel h ?_
    have e : (z.a * k + z.b * m + (x.v - (x.a * k + x.b * m))) * Rw.n x y z = (z.a - x.a) * (k * Rw.n x y z) + (z.b - x.b) * (m * Rw.n x y z) + x.v * Rw.n x y z := by grind
    rw [e, h1, h2]
    unfold Rw.n Rw.n1 Rw.n2 det2
    grind
/-- They are the only ones. -/
theorem k_only {x y z : Rw} (h : Rw.n x y z ≠ 0) {k m l : Rat} (e1 : x.a * k + x.b * m + l = x.v) (e2 : y.a * k + y.b * m + l = y.v) (e3 : z.a * k + z.b * m + l = z.v) : k = Rw.k1 x y z ∧ m = Rw.k2 x y z ∧ l = Rw.k3 x y z := by
  have a1 : k = Rw.k1 x y z := by
    refine cancel h ?_
    rw [k1_mul h]
    unfold Rw.n Rw.n1 det2
    rw [← e1, ← e2, ← e3]
    grind
  have a2 : m = Rw.k2 x y z := by
    refine cancel h ?_
    rw [k2_mul h]
    unfold Rw.n Rw.n2 det2
    rw [← e1, ← e2, ← e3]
    grind
  refine ⟨a1, a2, ?_⟩
  unfold Rw.k3
  rw [← a1, ← a2]
  grind

/-- A generator. -/
structure Gn where
  g : Rat
  a : Rat
  c : Rat
  b : Rat
def Gn.sum (x : Gn) : Rat := x.g * x.g + (x.a * x.a + x.c * x.c)
def Gn.two (x : Gn) : Rat := 2 * (x.a * x.c)
def Gn.k1 (x : Gn) : Rat := x.g / x.a
def Gn.k2 (x : Gn) : Rat := x.g / x.c
def Gn.k3 (x : Gn) : Rat := (x.sum - x.b) / x.two
def Gn.err (x : Gn) (r : Rw) : Rat := r.a * x.k1 + r.b * x.k2 + x.k3 - r.v
/-- What is accepted: the signs. -/
def Gn.fine (x : Gn) : Prop := 0 < x.g ∧ 0 < x.b ∧ x.a ≠ 0 ∧ x.c ≠ 0
theorem Gn.two_ne {x : Gn} (h : x.fine) : x.two ≠ 0 := fun e => by
  unfold Gn.two at e
  rcases Rat.mul_eq_zero.1 e with e | e
  · exact absurd e (by decide +kernel)
  · rcases Rat.mul_eq_zero.1 e with e | e
    · exact h.2.2.1 e
    · exact h.2.2.2 e
theorem Gn.k1_mul {x : Gn} (h : x.fine) : x.k1 * x.a = x.g := Rat.div_mul_cancel h.2.2.1
theorem Gn.k2_mul {x : Gn} (h : x.fine) : x.k2 * x.c = x.g := Rat.div_mul_cancel h.2.2.2
theorem Gn.k3_mul {x : Gn} (h : x.fine) : x.k3 * x.two = x.sum - x.b := Rat.div_mul_cancel (Gn.two_ne h)
/-- A pair: cosine and sine of the crank's turn and of the rocker's. -/
structure Pr where
  c : Rat
  s : Rat
  d : Rat
  t : Rat
def Pr.unit (p : Pr) : Prop := p.c * p.c + p.s * p.s = 1 ∧ p.d * p.d + p.t * p.t = 1
def Pr.row (p : Pr) : Rw := ⟨p.d, -p.c, p.c * p.d + p.s * p.t⟩
/-- The square of the distance of the ends. -/
def Gn.dist (x : Gn) (p : Pr) : Rat := (x.a * p.c - (x.g + x.c * p.d)) * (x.a * p.c - (x.g + x.c * p.d)) + (x.a * p.s - x.c * p.t) * (x.a * p.s - x.c * p.t)
theorem Gn.dist_err {x : Gn} (h : x.fine) {p : Pr} (hu : p.unit) : x.dist p = x.b + 2 * (x.err p.row * (x.a * x.c)) := by
  obtain ⟨u1, u2⟩ := hu
  have h1 := Gn.k1_mul h
  have h2 := Gn.k2_mul h
  have h3 := Gn.k3_mul h
  unfold Gn.dist Gn.err Pr.row
  unfold Gn.two Gn.sum at h3
  obtain ⟨g, a, c, b⟩ := x
  obtain ⟨pc, ps, pd, pt⟩ := p
  simp only at *
  generalize Gn.k1 _ = k at *
  generalize Gn.k2 _ = m at *
  generalize Gn.k3 _ = l at *
  have e1 : a * a * (pc * pc + ps * ps) = a * a := by rw [u1, Rat.mul_one]
  have e2 : c * c * (pd * pd + pt * pt) = c * c := by rw [u2, Rat.mul_one]
  have e3 : k * a * (c * pd) = g * (c * pd) := by rw [h1]
  have e4 : m * c * (a * pc) = g * (a * pc) := by rw [h2]
  grind
theorem Gn.fits_iff {x : Gn} (h : x.fine) {p : Pr} (hu : p.unit) : x.dist p = x.b ↔ x.err p.row = 0 := by
  have e := Gn.dist_err h hu
  have hn : x.a * x.c ≠ 0 := fun e => by
    rcases Rat.mul_eq_zero.1 e with e | e
    · exact h.2.2.1 e
    · exact h.2.2.2 e
  constructor
  · intro hd
    rw [hd] at e
    have : x.err p.row * (x.a * x.c) = 0 := by grind
    rcases Rat.mul_eq_zero.1 this with q | q
    · exact q
    · exact absurd q hn
  · intro hd
    rw [e, hd]
    grind
/-- The generator of three ratios. -/
def genOf (g k1 k2 k3 : Rat) : Gn :=
  ⟨g, g / k1, g / k2, (g * g + (g / k1 * (g / k1) + g / k2 * (g / k2))) - 2 * (g / k1 * (g / k2)) * k3⟩
theorem div_div {g k : Rat} (hg : g ≠ 0) (hk : k ≠ 0) : g / (g / k) = k := by
  have h1 : g / k * k = g := Rat.div_mul_cancel hk
  have hn : g / k ≠ 0 := fun e => hg (by rw [← h1, e, Rat.zero_mul])
  refine cancel hn ?_
  rw [Rat.div_mul_cancel hn]
  rw [Rat.mul_comm]
  exact h1.symm
theorem div_ne {g k : Rat} (hg : g ≠ 0) (hk : k ≠ 0) : g / k ≠ 0 := fun e => hg (by rw [← Rat.div_mul_cancel (a := g) hk, e, Rat.zero_mul])
theorem genOf_k {g k1 k2 k3 : Rat} (hg : g ≠ 0) (h1 : k1 ≠ 0) (h2 : k2 ≠ 0) : (genOf g k1 k2 k3).k1 = k1 ∧ (genOf g k1 k2 k3).k2 = k2 ∧ (genOf g k1 k2 k3).k3 = k3 := by
  refine ⟨div_div hg h1, div_div hg h2, ?_⟩
  have ha := div_ne hg h1
  have hc := div_ne hg h2
  have ht : (2 : Rat) * (g / k1 * (g / k2)) ≠ 0 := fun e => by
    rcases Rat.mul_eq_zero.1 e with e | e
    · exact absurd e (by decide +kernel)
    · rcases Rat.mul_eq_zero.1 e with e | e
      · exact ha e
      · exact hc e
  refine cancel ht ?_
  have : (genOf g k1 k2 k3).k3 * (2 * (g / k1 * (g / k2))) = (genOf g k1 k2 k3).sum - (genOf g k1 k2 k3).b := Rat.div_mul_cancel ht
  rw [this]
  unfold Gn.sum genOf
  simp only
  grind
theorem genOf_err {g : Rat} {x y z : Rw} (hg : g ≠ 0) (h : Rw.n x y z ≠ 0) (h1 : Rw.k1 x y z ≠ 0) (h2 : Rw.k2 x y z ≠ 0) :
    (genOf g (Rw.k1 x y z) (Rw.k2 x y z) (Rw.k3 x y z)).err x = 0 ∧ (genOf g (Rw.k1 x y z) (Rw.k2 x y z) (Rw.k3 x y z)).err y = 0 ∧ (genOf g (Rw.k1 x y z) (Rw.k2 x y z) (Rw.k3 x y z)).err z = 0 := by
  obtain ⟨e1, e2, e3⟩ := genOf_k (k3 := Rw.k3 x y z) hg h1 h2
  obtain ⟨s1, s2, s3⟩ := k_sat h
  unfold Gn.err
  rw [e1, e2, e3, s1, s2, s3]
  refine ⟨?_, ?_, ?_⟩ <;> grind
/-- A generator that fits three pairs is the one that is made. -/
theorem gen_only {x : Gn} (hx : x.fine) {p q r : Rw} (h : Rw.n p q r ≠ 0) (e1 : x.err p = 0) (e2 : x.err q = 0) (e3 : x.err r = 0) :
    Rw.k1 p q r ≠ 0 ∧ Rw.k2 p q r ≠ 0 ∧ genOf x.g (Rw.k1 p q r) (Rw.k2 p q r) (Rw.k3 p q r) = x := by
  have hg : x.g ≠ 0 := fun e => by have := hx.1; rw [e] at this; exact absurd this (by decide +kernel)
  unfold Gn.err at e1 e2 e3
  obtain ⟨a1, a2, a3⟩ := k_only h (k := x.k1) (m := x.k2) (l := x.k3) (by grind) (by grind) (by grind)
  rw [← a1, ← a2, ← a3]
  have n1 : x.k1 ≠ 0 := div_ne hg hx.2.2.1
  have n2 : x.k2 ≠ 0 := div_ne hg hx.2.2.2
  refine ⟨n1, n2, ?_⟩
  have d1 : x.g / x.k1 = x.a := div_div hg hx.2.2.1
  have d2 : x.g / x.k2 = x.c := div_div hg hx.2.2.2
  have k3 := Gn.k3_mul hx
  unfold genOf
  rw [d1, d2]
  unfold Gn.two Gn.sum at k3
  obtain ⟨g, a, c, b⟩ := x
  simp only at *
  have : g * g + (a * a + c * c) - 2 * (a * c) * Gn.k3 ⟨g, a, c, b⟩ = b := by
    generalize Gn.k3 ⟨g, a, c, b⟩ = l at *
    grind
  rw [this]
/-- With another frame all lengths are multiplied. -/
theorem gen_scale (g k1 k2 k3 : Rat) (h1 : k1 ≠ 0) (h2 : k2 ≠ 0) : (genOf g k1 k2 k3).a = g * (genOf 1 k1 k2 k3).a ∧ (genOf g k1 k2 k3).c = g * (genOf 1 k1 k2 k3).c ∧ (genOf g k1 k2 k3).b = g * g * (genOf 1 k1 k2 k3).b := by
  have a1 : g / k1 = g * (1 / k1) := by
    refine cancel h1 ?_
    rw [Rat.div_mul_cancel h1, Rat.mul_assoc, Rat.div_mul_cancel h1, Rat.mul_one]
  have a2 : g / k2 = g * (1 / k2) := by
    refine cancel h2 ?_
    rw [Rat.div_mul_cancel h2, Rat.mul_assoc, Rat.div_mul_cancel h2, Rat.mul_one]
  refine ⟨a1, a2, ?_⟩
  unfold genOf
  simp only
  rw [a1, a2]
  generalize 1 / k1 = p
  generalize 1 / k2 = q
  grind
theorem gen_scale_err {g k1 k2 k3 : Rat} (hg : g ≠ 0) (h1 : k1 ≠ 0) (h2 : k2 ≠ 0) (r : Rw) : (genOf g k1 k2 k3).err r = (genOf 1 k1 k2 k3).err r := by
  obtain ⟨e1, e2, e3⟩ := genOf_k (k3 := k3) hg h1 h2
  obtain ⟨f1, f2, f3⟩ := genOf_k (g := 1) (k3 := k3) (by decide +kernel) h1 h2
  unfold Gn.err
  rw [e1, e2, e3, f1, f2, f3]
end Lw
