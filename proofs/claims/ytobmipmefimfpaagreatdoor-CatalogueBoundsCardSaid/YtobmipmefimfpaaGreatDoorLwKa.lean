/- Boxes of a catalogue: plain laws. No condition. -/
import Derived.Test.YtobmipmefimfpaaGreatDoorLwFa
namespace Lw
open Go Go.RowKit Go.Proofs

/-! ### intervals -/
/-- The least and the greatest value of a product of lengths of a box with a factor. -/
def tLo (k x y X Y : Rat) : Rat := if k < 0 then k * (X * Y) else k * (x * y)
def tHi (k x y X Y : Rat) : Rat := if k < 0 then k * (x * y) else k * (X * Y)
theorem mul_le_l {a b c : Rat} (h : a ≤ b) (hc : 0 ≤ c) : c * a ≤ c * b := by
  have h1 : 0 ≤ b - a := by grind
  have h2 := Rat.mul_nonneg hc h1
  grind
theorem mul_le_neg {a b c : Rat} (h : a ≤ b) (hc : c < 0) : c * b ≤ c * a := by
  have h1 : 0 ≤ b - a := by grind
  have h2 := Rat.mul_nonneg (a := -c) (by grind) h1
  grind
theorem mul_mono {x y X Y : Rat} (hx : 0 ≤ x) (hy : 0 ≤ y) (h1 : x ≤ X) (h2 : y ≤ Y) : x * y ≤ X * Y := by
  have a := mul_le_l h2 hx
  have b := mul_le_l h1 (Rat.le_trans hy h2)
  grind
theorem tLo_le {k x y X Y p q : Rat} (hx : 0 ≤ x) (hy : 0 ≤ y) (h1 : x ≤ p) (h2 : p ≤ X) (h3 : y ≤ q) (h4 : q ≤ Y) : tLo k x y X Y ≤ k * (p * q) ∧ k * (p * q) ≤ tHi k x y X Y := by
  have a := mul_mono hx hy h1 h3
  have b := mul_mono (Rat.le_trans hx h1) (Rat.le_trans hy h3) h2 h4
  unfold tLo tHi
  by_cases hk : k < 0
  · rw [if_pos hk, if_pos hk]
    exact ⟨mul_le_neg b hk, mul_le_neg a hk⟩
  · rw [if_neg hk, if_neg hk]
    exact ⟨mul_le_l a (Rat.not_lt.1 hk), mul_le_l b (Rat.not_lt.1 hk)⟩
/-- In a smaller box the least value is greater, the greatest one less. -/
theorem tLo_mono {k x y X Y x' y' X' Y' : Rat} (hx : 0 ≤ x) (hy : 0 ≤ y) (h1 : x ≤ x') (h2 : x' ≤ X') (h3 : X' ≤ X) (h4 : y ≤ y') (h5 : y' ≤ Y') (h6 : Y' ≤ Y) :
    tLo k x y X Y ≤ tLo k x' y' X' Y' ∧ tHi k x' y' X' Y' ≤ tHi k x y X Y := by
  have a := tLo_le (k := k) hx hy h1 (Rat.le_trans h2 h3) h4 (Rat.le_trans h5 h6)
  have b := tLo_le (k := k) hx hy (Rat.le_trans h1 h2) h3 (Rat.le_trans h4 h5) h6
  constructor
  · show _ ≤ (if k < 0 then k * (X' * Y') else k * (x' * y'))
    split
    · exact b.1
    · exact a.1
  · show (if k < 0 then k * (x' * y') else k * (X' * Y')) ≤ _
    split
    · exact a.2
    · exact b.2
theorem tLo_point (k x y : Rat) : tLo k x y x y = k * (x * y) ∧ tHi k x y x y = k * (x * y) := by
  unfold tLo tHi
  split <;> exact ⟨rfl, rfl⟩
/-- The reference orders the two products. -/
theorem tLo_ref {k x y X Y : Rat} (hx : 0 ≤ x) (hy : 0 ≤ y) (h1 : x ≤ X) (h2 : y ≤ Y) :
    (if k * (X * Y) < k * (x * y) then k * (X * Y) else k * (x * y)) = tLo k x y X Y ∧ (if k * (X * Y) < k * (x * y) then k * (x * y) else k * (X * Y)) = tHi k x y X Y := by
  have a := mul_mono hx hy h1 h2
  unfold tLo tHi
  by_cases hk : k < 0
  · have b := mul_le_neg a hk
    rw [if_pos hk, if_pos hk]
    by_cases h : k * (X * Y) < k * (x * y)
    · rw [if_pos h, if_pos h]; exact ⟨rfl, rfl⟩
    · rw [if_neg h, if_neg h]
      have : k * (X * Y) = k * (x * y) := by have := Rat.not_lt.1 h; grind
      rw [this]; exact ⟨rfl, rfl⟩
  · have b := mul_le_l a (Rat.not_lt.1 hk)
    rw [if_neg hk, if_neg hk, if_neg (Rat.not_lt.2 b), if_neg (Rat.not_lt.2 b)]
    exact ⟨rfl, rfl⟩
/-- The least square of a number of an interval. -/
def leastQ (lo hi : Rat) : Rat := if 0 < lo then lo * lo else if hi < 0 then hi * hi else 0
theorem least_nonneg (lo hi : Rat) : 0 ≤ leastQ lo hi := by
  unfold leastQ
  split
  · exact sq_nonneg lo
  · split
    · exact sq_nonneg hi
    · exact Rat.le_refl
theorem least_mono {lo hi lo' hi' : Rat} (h1 : lo ≤ lo') (h2 : lo' ≤ hi') (h3 : hi' ≤ hi) : leastQ lo hi ≤ leastQ lo' hi' := by
  unfold leastQ
  by_cases a : 0 < lo
  · have a' : 0 < lo' := by grind
    rw [if_pos a, if_pos a']
    exact mul_mono (Rat.le_of_lt a) (Rat.le_of_lt a) h1 h1
  · rw [if_neg a]
    by_cases b : hi < 0
    · have b' : hi' < 0 := by grind
      have a' : ¬ 0 < lo' := by grind
      rw [if_pos b, if_neg a', if_pos b']
      have := mul_mono (x := -hi) (y := -hi) (X := -hi') (Y := -hi') (by grind) (by grind) (by grind) (by grind)
      grind
    · rw [if_neg b]
      exact least_nonneg lo' hi'
theorem least_point (e : Rat) : leastQ e e = e * e := by
  unfold leastQ
  by_cases a : 0 < e
  · rw [if_pos a]
  · rw [if_neg a]
    by_cases b : e < 0
    · rw [if_pos b]
    · rw [if_neg b]
      have : e = 0 := by have := Rat.not_lt.1 a; have := Rat.not_lt.1 b; grind
      rw [this, Rat.mul_zero]
/-- The reference adds both squares; one of them is none. -/
theorem least_ref {lo hi s : Rat} (h : lo ≤ hi) : (if hi < 0 then (if 0 < lo then s + lo * lo else s) + hi * hi else (if 0 < lo then s + lo * lo else s)) = s + leastQ lo hi := by
  unfold leastQ
  by_cases a : 0 < lo
  · have b : ¬ hi < 0 := by grind
    rw [if_neg b, if_pos a, if_pos a]
  · rw [if_neg a, if_neg a]
    by_cases b : hi < 0
    · rw [if_pos b, if_pos b]
    · rw [if_neg b, if_neg b]
      exact (Rat.add_zero s).symm

/-! ### boxes -/
/-- The factors of a pair. -/
structure Fc where
  gc : Rat
  ga : Rat
  ac : Rat
def Pr.fc (p : Pr) : Fc := ⟨2 * p.d, -(2 * p.c), -(2 * (p.c * p.d + p.s * p.t))⟩
/-- The lengths of a box: the least ones and the greatest ones. -/
structure Bx where
  g : Rat
  a : Rat
  b : Rat
  r : Rat
  G : Rat
  A : Rat
  B : Rat
  R : Rat
def Bx.fine (x : Bx) : Prop := (0 ≤ x.g ∧ x.g ≤ x.G) ∧ (0 ≤ x.a ∧ x.a ≤ x.A) ∧ (0 ≤ x.b ∧ x.b ≤ x.B) ∧ (0 ≤ x.r ∧ x.r ≤ x.R)
def Bx.lo (x : Bx) (f : Fc) : Rat :=
  0 + tLo 1 x.g x.g x.G x.G + tLo 1 x.a x.a x.A x.A + tLo 1 x.r x.r x.R x.R + tLo (-1) x.b x.b x.B x.B + tLo f.gc x.g x.r x.G x.R + tLo f.ga x.g x.a x.G x.A + tLo f.ac x.a x.r x.A x.R
def Bx.hi (x : Bx) (f : Fc) : Rat :=
  0 + tHi 1 x.g x.g x.G x.G + tHi 1 x.a x.a x.A x.A + tHi 1 x.r x.r x.R x.R + tHi (-1) x.b x.b x.B x.B + tHi f.gc x.g x.r x.G x.R + tHi f.ga x.g x.a x.G x.A + tHi f.ac x.a x.r x.A x.R
def Bx.sub (x y : Bx) : Prop := (x.g ≤ y.g ∧ y.G ≤ x.G) ∧ (x.a ≤ y.a ∧ y.A ≤ x.A) ∧ (x.b ≤ y.b ∧ y.B ≤ x.B) ∧ (x.r ≤ y.r ∧ y.R ≤ x.R)
theorem tLo_self {k x y X Y : Rat} (hx : 0 ≤ x) (hy : 0 ≤ y) (h1 : x ≤ X) (h2 : y ≤ Y) : tLo k x y X Y ≤ tHi k x y X Y := by
  obtain ⟨a, b⟩ := tLo_le (k := k) (p := x) (q := y) hx hy Rat.le_refl h1 Rat.le_refl h2
  exact Rat.le_trans a b
theorem Bx.lo_le {x : Bx} (h : x.fine) (f : Fc) : x.lo f ≤ x.hi f := by
  obtain ⟨⟨g1, g2⟩, ⟨a1, a2⟩, ⟨b1, b2⟩, r1, r2⟩ := h
  have e1 := tLo_self (k := 1) g1 g1 g2 g2
  have e2 := tLo_self (k := 1) a1 a1 a2 a2
  have e3 := tLo_self (k := 1) r1 r1 r2 r2
  have e4 := tLo_self (k := -1) b1 b1 b2 b2
  have e5 := tLo_self (k := f.gc) g1 r1 g2 r2
  have e6 := tLo_self (k := f.ga) g1 a1 g2 a2
  have e7 := tLo_self (k := f.ac) a1 r1 a2 r2
  unfold Bx.lo Bx.hi
  grind
theorem Bx.mono {x y : Bx} (h : x.fine) (hy : y.fine) (s : x.sub y) (f : Fc) : x.lo f ≤ y.lo f ∧ y.hi f ≤ x.hi f := by
  obtain ⟨⟨g1, g2⟩, ⟨a1, a2⟩, ⟨b1, b2⟩, r1, r2⟩ := h
  obtain ⟨⟨g3, g4⟩, ⟨a3, a4⟩, ⟨b3, b4⟩, r3, r4⟩ := hy
  obtain ⟨⟨g5, g6⟩, ⟨a5, a6⟩, ⟨b5, b6⟩, r5, r6⟩ := s
  have e1 := tLo_mono (k := 1) g1 g1 g5 g4 g6 g5 g4 g6
  have e2 := tLo_mono (k := 1) a1 a1 a5 a4 a6 a5 a4 a6
  have e3 := tLo_mono (k := 1) r1 r1 r5 r4 r6 r5 r4 r6
  have e4 := tLo_mono (k := -1) b1 b1 b5 b4 b6 b5 b4 b6
  have e5 := tLo_mono (k := f.gc) g1 r1 g5 g4 g6 r5 r4 r6
  have e6 := tLo_mono (k := f.ga) g1 a1 g5 g4 g6 a5 a4 a6
  have e7 := tLo_mono (k := f.ac) a1 r1 a5 a4 a6 r5 r4 r6
  unfold Bx.lo Bx.hi
  constructor <;> grind
/-- The bound of a box for some pairs. -/
def Bx.low (x : Bx) : List Pr → Rat → Rat
  | [], s => s
  | p :: l, s => x.low l (s + leastQ (x.lo p.fc) (x.hi p.fc))
theorem Bx.low_mono {x y : Bx} (h : x.fine) (hy : y.fine) (s : x.sub y) : ∀ (l : List Pr) {u v : Rat}, u ≤ v → x.low l u ≤ y.low l v
  | [], _, _, huv => huv
  | p :: l, u, v, huv => by
    obtain ⟨e1, e2⟩ := Bx.mono h hy s p.fc
    have e3 := least_mono e1 (Bx.lo_le hy p.fc) e2
    exact Bx.low_mono h hy s l (by grind)
theorem Bx.low_nonneg (x : Bx) : ∀ (l : List Pr) {u : Rat}, 0 ≤ u → 0 ≤ x.low l u
  | [], _, h => h
  | p :: l, u, h => by
    have := least_nonneg (x.lo p.fc) (x.hi p.fc)
    exact Bx.low_nonneg x l (by grind)
/-- One choice. -/
def Bx.at (g a b r : Rat) : Bx := ⟨g, a, b, r, g, a, b, r⟩
def missQ (g a b r : Rat) (p : Pr) : Rat := g * g + a * a + r * r - b * b + 2 * p.d * (g * r) - 2 * p.c * (g * a) - 2 * (p.c * p.d + p.s * p.t) * (a * r)
theorem at_lo (g a b r : Rat) (p : Pr) : (Bx.at g a b r).lo p.fc = missQ g a b r p ∧ (Bx.at g a b r).hi p.fc = missQ g a b r p := by
  unfold Bx.at Bx.lo Bx.hi missQ Pr.fc
  simp only [(tLo_point _ _ _).1, (tLo_point _ _ _).2]
  constructor <;> grind
theorem at_low (g a b r : Rat) : ∀ (l : List Pr) (u : Rat), (Bx.at g a b r).low l u = l.foldl (fun s p => s + missQ g a b r p * missQ g a b r p) u
  | [], _ => rfl
  | p :: l, u => by
    obtain ⟨e1, e2⟩ := at_lo g a b r p
    show (Bx.at g a b r).low l (u + leastQ ((Bx.at g a b r).lo p.fc) ((Bx.at g a b r).hi p.fc)) = _
    rw [e1, e2, least_point, at_low g a b r l]
    rfl
theorem sum_sq_zero (f : Pr → Rat) : ∀ (l : List Pr) {u : Rat}, 0 ≤ u → (l.foldl (fun s p => s + f p * f p) u = 0 ↔ u = 0 ∧ ∀ p ∈ l, f p = 0)
  | [], u, _ => ⟨fun h => ⟨h, fun p hp => by cases hp⟩, fun h => h.1⟩
  | p :: l, u, h => by
    have hn := sq_nonneg (f p)
    have ih := sum_sq_zero f l (u := u + f p * f p) (by grind)
    rw [List.foldl_cons, ih]
    constructor
    · rintro ⟨h1, h2⟩
      have hu : u = 0 := by grind
      have hf : f p * f p = 0 := by grind
      refine ⟨hu, fun q hq => ?_⟩
      rcases List.mem_cons.1 hq with rfl | hq
      · rcases Rat.mul_eq_zero.1 hf with k | k <;> exact k
      · exact h2 q hq
    · rintro ⟨h1, h2⟩
      refine ⟨?_, fun q hq => h2 q (by simp [hq])⟩
      rw [h1, h2 p (by simp), Rat.mul_zero, Rat.add_zero]
theorem miss_dist (g a b r : Rat) {p : Pr} (hu : p.unit) : missQ g a b r p = (Gn.mk g a r (b * b)).dist p - b * b := by
  obtain ⟨u1, u2⟩ := hu
  unfold missQ Gn.dist
  simp only
  have e1 : a * a * (p.c * p.c + p.s * p.s) = a * a := by rw [u1, Rat.mul_one]
  have e2 : r * r * (p.d * p.d + p.t * p.t) = r * r := by rw [u2, Rat.mul_one]
  grind
/-- The cost is 0 exactly if all pairs fit. -/
theorem cost_zero (g a b r : Rat) (l : List Pr) (hu : ∀ p ∈ l, p.unit) : (Bx.at g a b r).low l 0 = 0 ↔ ∀ p ∈ l, (Gn.mk g a r (b * b)).dist p = b * b := by
  rw [at_low, sum_sq_zero _ l Rat.le_refl]
  constructor
  · rintro ⟨-, h⟩ p hp
    have := h p hp
    rw [miss_dist g a b r (hu p hp)] at this
    grind
  · intro h
    refine ⟨rfl, fun p hp => ?_⟩
    rw [miss_dist g a b r (hu p hp), h p hp]
    grind
end Lw
