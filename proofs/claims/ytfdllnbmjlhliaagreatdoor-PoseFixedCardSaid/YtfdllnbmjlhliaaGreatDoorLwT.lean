/- Plain laws of long division; how many bits a word has. No condition. -/
import Derived.Test.YtfdllnbmjlhliaaGreatDoorLwM
namespace Lw

/-- One guess at a digit of a quotient. -/
structure Guess where
  W : Nat
  V : Nat
  P : Nat
  top : Nat
  next : Nat
  v0 : Nat
  head : Nat
  w2 : Nat
  w0 : Nat
structure Guess.ok (p : Guess) : Prop where
  hV : p.V = (p.top * 4294967296 + p.next) * p.P + p.v0
  hv0 : p.v0 < p.P
  hW : p.W = (p.head * 4294967296 + p.w2) * p.P + p.w0
  hw0 : p.w0 < p.P
  htop : 2147483648 ≤ p.top
  htop' : p.top < 4294967296
  hnext : p.next < 4294967296
  hw2 : p.w2 < 4294967296
  hlt : p.W < 4294967296 * p.V
def Guess.g (p : Guess) (t : Nat) : Nat := p.head / p.top - t
def Guess.r (p : Guess) (t : Nat) : Nat := p.head % p.top + t * p.top
/-- Goes the search on? -/
def Guess.more (p : Guess) (t : Nat) : Prop := p.r t < 4294967296 ∧ (4294967296 ≤ p.g t ∨ p.r t * 4294967296 + p.w2 < p.g t * p.next)

theorem Guess.sum {p : Guess} {t : Nat} (ht : t ≤ p.head / p.top) : p.g t * p.top + p.r t = p.head := by
  unfold Guess.g Guess.r
  have h1 := Nat.div_add_mod p.head p.top
  obtain ⟨q, hq⟩ := Nat.exists_eq_add_of_le ht
  rw [hq, Nat.mul_add] at h1
  rw [hq, Nat.add_sub_cancel_left, Nat.mul_comm q, Nat.mul_comm t]
  omega
theorem Guess.over {p : Guess} (hp : p.ok) {G : Nat} (h : p.head * 4294967296 + p.w2 + 1 ≤ G * (p.top * 4294967296 + p.next)) : p.W < G * p.V := by
  have h1 := Nat.mul_le_mul_right p.P h
  have h2 : G * (p.top * 4294967296 + p.next) * p.P ≤ G * p.V := by
    rw [Nat.mul_assoc, hp.hV]; exact Nat.mul_le_mul_left _ (Nat.le_add_right _ _)
  have h3 := hp.hw0
  rw [hp.hW]
  rw [Nat.add_mul (p.head * 4294967296 + p.w2) 1, Nat.one_mul] at h1
  omega
theorem Guess.inv {p : Guess} (hp : p.ok) {T : Nat} (hT : ∀ t, t < T → p.more t) : ∀ t, t ≤ T → t ≤ p.head / p.top ∧ p.W < (p.g t + 1) * p.V
  | 0, _ => by
    refine ⟨Nat.zero_le _, Guess.over hp ?_⟩
    have h0 : 0 < p.top := by have := hp.htop; omega
    have h1 : p.head < (p.g 0 + 1) * p.top := by
      have h2 := Guess.sum (p := p) (t := 0) (Nat.zero_le _)
      have h3 : p.r 0 < p.top := by unfold Guess.r; rw [Nat.zero_mul, Nat.add_zero]; exact Nat.mod_lt _ h0
      rw [Nat.add_mul, Nat.one_mul]; omega
    have h2 := Nat.mul_le_mul_right 4294967296 h1
    have h3 := hp.hw2
    have h4 : (p.g 0 + 1) * (p.top * 4294967296 + p.next) = (p.g 0 + 1) * p.top * 4294967296 + (p.g 0 + 1) * p.next := by rw [Nat.mul_add, Nat.mul_assoc]
    rw [h4]
    have h5 : (p.head + 1) * 4294967296 = p.head * 4294967296 + 4294967296 := by rw [Nat.add_mul, Nat.one_mul]
    rw [Nat.succ_eq_add_one, h5] at h2
    omega
  | t + 1, ht => by
    obtain ⟨i1, i2⟩ := Guess.inv hp hT t (by omega)
    have hm := hT t (by omega)
    have hs := Guess.sum (p := p) i1
    have key : p.W < p.g t * p.V := by
      rcases hm.2 with h | h
      · exact Nat.lt_of_lt_of_le hp.hlt (Nat.mul_le_mul_right _ h)
      · refine Guess.over hp ?_
        rw [Nat.mul_add, ← Nat.mul_assoc]
        have h6 := congrArg (· * 4294967296) hs
        simp only [Nat.add_mul] at h6
        omega
    have hpos : 0 < p.g t := by
      rcases Nat.eq_zero_or_pos (p.g t) with h | h
      · rw [h, Nat.zero_mul] at key; omega
      · exact h
    have hg : p.g (t + 1) = p.g t - 1 := by unfold Guess.g; omega
    refine ⟨by unfold Guess.g at hpos; omega, ?_⟩
    rw [hg, show p.g t - 1 + 1 = p.g t by omega]; exact key
theorem Guess.stops {p : Guess} (hp : p.ok) : ∃ T, (∀ t, t < T → p.more t) ∧ ¬ p.more T := by
  have hb : ¬ p.more 2 := by
    intro h
    have h1 := h.1
    have h2 := hp.htop
    unfold Guess.r at h1
    omega
  by_cases h0 : p.more 0
  · by_cases h1 : p.more 1
    · exact ⟨2, fun t ht => by rcases (by omega : t = 0 ∨ t = 1) with rfl | rfl <;> assumption, hb⟩
    · exact ⟨1, fun t ht => by rw [show t = 0 by omega]; exact h0, h1⟩
  · exact ⟨0, fun t ht => absurd ht (by omega), h0⟩
/-- Where the search ends the guess is the digit, or one more. -/
theorem Guess.end {p : Guess} (hp : p.ok) {T : Nat} (hT : ∀ t, t < T → p.more t) (hn : ¬ p.more T) : p.g T < 4294967296 ∧ p.W < (p.g T + 1) * p.V ∧ (p.g T - 1) * p.V ≤ p.W := by
  obtain ⟨i1, i2⟩ := Guess.inv hp hT T (Nat.le_refl _)
  have hs := Guess.sum (p := p) i1
  have hP : 0 < p.P := by have := hp.hv0; omega
  have hlt : p.g T < 4294967296 := by
    rcases Nat.lt_or_ge (p.g T) 4294967296 with h | h
    · exact h
    · exfalso
      refine hn ⟨?_, .inl h⟩
      have h1 : 4294967296 * p.top ≤ p.g T * p.top := Nat.mul_le_mul_right _ h
      have h2 : (p.head * 4294967296 + p.w2) * p.P < (4294967296 * (p.top * 4294967296 + p.next + 1)) * p.P := by
        have h3 := hp.hlt
        have h4 := hp.hW
        have h5 := hp.hV
        have h6 := hp.hv0
        have h7 : 4294967296 * p.V ≤ (4294967296 * (p.top * 4294967296 + p.next + 1)) * p.P := by
          rw [Nat.mul_assoc]
          refine Nat.mul_le_mul_left _ ?_
          rw [Nat.add_mul _ 1, Nat.one_mul]; omega
        omega
      have h3 := Nat.lt_of_mul_lt_mul_right h2
      have h4 := hp.hnext
      omega
  refine ⟨hlt, i2, ?_⟩
  rcases Nat.eq_zero_or_pos (p.g T) with h0 | h0
  · rw [h0]; simp
  have hmono : (p.g T - 1) * p.V ≤ p.g T * p.V := Nat.mul_le_mul_right _ (Nat.sub_le _ _)
  by_cases hr : p.r T < 4294967296
  · have hnx : p.g T * p.next ≤ p.r T * 4294967296 + p.w2 := by
      rcases Nat.lt_or_ge (p.r T * 4294967296 + p.w2) (p.g T * p.next) with h | h
      · exact absurd ⟨hr, .inr h⟩ hn
      · exact h
    have h1 : p.g T * (p.top * 4294967296 + p.next) ≤ p.head * 4294967296 + p.w2 := by
      rw [Nat.mul_add, ← Nat.mul_assoc]
      have h6 := congrArg (· * 4294967296) hs
      simp only [Nat.add_mul] at h6
      omega
    have h2 := Nat.mul_le_mul_right p.P h1
    have h3 : (p.g T - 1) * p.V ≤ (p.g T - 1) * ((p.top * 4294967296 + p.next) * p.P) + (p.g T - 1) * p.P := by
      rw [← Nat.mul_add]
      refine Nat.mul_le_mul_left _ ?_
      have := hp.hV; have := hp.hv0; omega
    have h4 : (p.g T - 1) * p.P ≤ (p.top * 4294967296 + p.next) * p.P := by
      refine Nat.mul_le_mul_right _ ?_
      have := hp.htop; omega
    have h5 : (p.g T - 1) * ((p.top * 4294967296 + p.next) * p.P) + (p.top * 4294967296 + p.next) * p.P = p.g T * (p.top * 4294967296 + p.next) * p.P := by
      have : p.g T = (p.g T - 1) + 1 := by omega
      conv => rhs; rw [this]
      rw [Nat.mul_assoc]
      generalize (p.top * 4294967296 + p.next) * p.P = z
      rw [Nat.add_mul, Nat.one_mul]
    have := hp.hW
    omega
  · have h1 : p.V ≤ (p.top + 1) * 4294967296 * p.P := by
      have h2 : (p.top * 4294967296 + p.next + 1) * p.P ≤ ((p.top + 1) * 4294967296) * p.P := by
        refine Nat.mul_le_mul_right _ ?_
        have := hp.hnext; omega
      rw [Nat.add_mul _ 1, Nat.one_mul] at h2
      have := hp.hV; have := hp.hv0; omega
    have h2 : p.g T * p.V ≤ p.g T * ((p.top + 1) * 4294967296 * p.P) := Nat.mul_le_mul_left _ h1
    have h3 : p.g T * ((p.top + 1) * 4294967296 * p.P) = (p.g T * p.top + p.g T) * 4294967296 * p.P := by
      rw [← Nat.mul_assoc, ← Nat.mul_assoc, Nat.mul_add, Nat.mul_one]
    have h4 : (p.g T * p.top + p.g T) * 4294967296 * p.P ≤ p.head * 4294967296 * p.P := by
      refine Nat.mul_le_mul_right _ (Nat.mul_le_mul_right _ ?_)
      omega
    have h5 : p.head * 4294967296 * p.P ≤ (p.head * 4294967296 + p.w2) * p.P := Nat.mul_le_mul_right _ (Nat.le_add_right _ _)
    have := hp.hW
    omega
theorem Guess.digit {p : Guess} (hp : p.ok) {T : Nat} (hT : ∀ t, t < T → p.more t) (hn : ¬ p.more T) :
    (p.W < p.g T * p.V → p.W / p.V = p.g T - 1 ∧ 0 < p.g T) ∧ (¬ p.W < p.g T * p.V → p.W / p.V = p.g T) := by
  obtain ⟨h1, h2, h3⟩ := Guess.end hp hT hn
  refine ⟨fun h => ?_, fun h => ?_⟩
  · have hpos : 0 < p.g T := by
      rcases Nat.eq_zero_or_pos (p.g T) with h0 | h0
      · rw [h0, Nat.zero_mul] at h; omega
      · exact h0
    refine ⟨Nat.div_eq_of_lt_le ?_ ?_, hpos⟩
    · exact h3
    · rw [show p.g T - 1 + 1 = p.g T by omega]; exact h
  · exact Nat.div_eq_of_lt_le (by omega) h2

/-! ### Bits. -/
def bl (x : Nat) : Nat := if x = 0 then 0 else x.log2 + 1
theorem bl_lt (x : Nat) : x < 2 ^ bl x := by
  unfold bl
  split
  · rename_i h; subst h; decide
  · rename_i h; exact (Nat.log2_lt h).1 (Nat.lt_succ_self _)
theorem bl_le {x : Nat} (h : x ≠ 0) : 2 ^ (bl x - 1) ≤ x := by
  unfold bl
  rw [if_neg h, Nat.add_sub_cancel]
  exact (Nat.le_log2 h).1 (Nat.le_refl _)
theorem bl_pos {x : Nat} (h : x ≠ 0) : 0 < bl x := by unfold bl; rw [if_neg h]; omega
theorem bl_of {x k : Nat} (h1 : 2 ^ k ≤ x) (h2 : x < 2 ^ (k + 1)) : bl x = k + 1 := by
  have h0 : x ≠ 0 := by have := Nat.pow_pos (n := k) (show 0 < 2 by omega); omega
  unfold bl
  rw [if_neg h0]
  have := (Nat.le_log2 h0).2 h1
  have := (Nat.log2_lt h0).2 h2
  omega
theorem bl_shift {x k : Nat} (h : 2 ^ k ≤ x) : bl x = bl (x / 2 ^ k) + k := by
  have hp : 0 < 2 ^ k := Nat.pow_pos (by omega)
  have hq : x / 2 ^ k ≠ 0 := by
    have : 1 ≤ x / 2 ^ k := (Nat.le_div_iff_mul_le hp).2 (by omega)
    omega
  have h1 := bl_le hq
  have h2 := bl_lt (x / 2 ^ k)
  have h3 := bl_pos hq
  obtain ⟨m, hm⟩ : ∃ m, bl (x / 2 ^ k) = m + 1 := ⟨bl (x / 2 ^ k) - 1, by omega⟩
  rw [hm] at h1 h2 ⊢
  rw [Nat.add_sub_cancel, Nat.le_div_iff_mul_le hp, ← Nat.pow_add] at h1
  rw [Nat.div_lt_iff_lt_mul hp, ← Nat.pow_add] at h2
  rw [bl_of (k := m + k) h1 (by rw [show m + k + 1 = m + 1 + k by omega]; exact h2)]; omega

/-! ### A long division. -/
theorem mod_up (R i V : Nat) : R % (BP i * V) = BP i * (R / BP i % V) + R % BP i := by rw [Nat.mod_mul]; omega
theorem low_dig {i k : Nat} (h : k < i) (x y : Nat) : (BP i * x + y) / BP k % 4294967296 = y / BP k % 4294967296 := by
  have e : BP i * x = BP k * (4294967296 * (BP (i - k - 1) * x)) := by
    conv => lhs; rw [show i = (k + (i - k - 1)) + 1 by omega, BP_succ, BP_add]
    simp only [Nat.mul_assoc, Nat.mul_comm, Nat.mul_left_comm]
  rw [e, add_mul_div_pos (BP_pos k)]; omega
structure LongIn where
  a : Nat
  b : Nat
  n : Nat
  la : Nat
  lb : Nat
def LongIn.U (d : LongIn) : Nat := d.a * 2 ^ d.n
def LongIn.V (d : LongIn) : Nat := d.b * 2 ^ d.n
def LongIn.R (d : LongIn) (c : Nat) : Nat := d.U % (BP c * d.V)
def LongIn.W (d : LongIn) (i : Nat) : Nat := d.R (i + 1) / BP i
structure LongIn.ok (d : LongIn) : Prop where
  hn : d.n ≤ 31
  hlb : 2 ≤ d.lb
  hle : d.lb ≤ d.la
  ha : d.a < BP d.la
  hV : d.V < BP d.lb
  hV' : 2147483648 * BP (d.lb - 1) ≤ d.V
def LongIn.guess (d : LongIn) (i : Nat) : Guess where
  W := d.W i
  V := d.V
  P := BP (d.lb - 2)
  top := d.V / BP (d.lb - 1)
  next := d.V / BP (d.lb - 2) % 4294967296
  v0 := d.V % BP (d.lb - 2)
  head := d.W i / BP (d.lb - 1)
  w2 := d.W i / BP (d.lb - 2) % 4294967296
  w0 := d.W i % BP (d.lb - 2)
theorem LongIn.V_pos {d : LongIn} (hd : d.ok) : 0 < d.V := by have := hd.hV'; have := BP_pos (d.lb - 1); omega
theorem LongIn.R_lt {d : LongIn} (hd : d.ok) (c : Nat) : d.R c < BP c * d.V := Nat.mod_lt _ (Nat.mul_pos (BP_pos c) (LongIn.V_pos hd))
theorem LongIn.W_lt {d : LongIn} (hd : d.ok) (i : Nat) : d.W i < 4294967296 * d.V := by
  have h := LongIn.R_lt hd (i + 1)
  unfold LongIn.W
  rw [Nat.div_lt_iff_lt_mul (BP_pos i)]
  rw [BP_succ, Nat.mul_comm 4294967296, Nat.mul_assoc, Nat.mul_comm] at h
  exact h
theorem LongIn.W_fits {d : LongIn} (hd : d.ok) (i : Nat) : d.W i < BP (d.lb + 1) := by
  have := LongIn.W_lt hd i
  have h2 := hd.hV
  rw [BP_succ]; omega
theorem two_down (x lb : Nat) (h : 2 ≤ lb) : x / BP (lb - 1) = x / BP (lb - 2) / 4294967296 := by
  rw [← div_BP_succ, show lb - 2 + 1 = lb - 1 by omega]
theorem LongIn.guess_ok {d : LongIn} (hd : d.ok) (i : Nat) : (d.guess i).ok where
  hV := by
    show d.V = (d.V / BP (d.lb - 1) * 4294967296 + d.V / BP (d.lb - 2) % 4294967296) * BP (d.lb - 2) + d.V % BP (d.lb - 2)
    rw [two_down _ _ hd.hlb, Nat.mul_comm (d.V / BP (d.lb - 2) / 4294967296), Nat.div_add_mod, Nat.mul_comm, Nat.div_add_mod]
  hv0 := mod_BP_lt _ _
  hW := by
    show d.W i = (d.W i / BP (d.lb - 1) * 4294967296 + d.W i / BP (d.lb - 2) % 4294967296) * BP (d.lb - 2) + d.W i % BP (d.lb - 2)
    rw [two_down _ _ hd.hlb, Nat.mul_comm (d.W i / BP (d.lb - 2) / 4294967296), Nat.div_add_mod, Nat.mul_comm, Nat.div_add_mod]
  hw0 := mod_BP_lt _ _
  htop := (Nat.le_div_iff_mul_le (BP_pos _)).2 hd.hV'
  htop' := by
    show d.V / BP (d.lb - 1) < 4294967296
    have := hd.hV
    rw [Nat.div_lt_iff_lt_mul (BP_pos _), ← BP_succ, show d.lb - 1 + 1 = d.lb by have := hd.hlb; omega]; exact this
  hnext := Nat.mod_lt _ (by omega)
  hw2 := Nat.mod_lt _ (by omega)
  hlt := LongIn.W_lt hd i
theorem LongIn.head_eq {d : LongIn} (hd : d.ok) (i : Nat) : d.W i / BP (d.lb - 1) = d.W i / BP d.lb % 4294967296 * 4294967296 + d.W i / BP (d.lb - 1) % 4294967296 := by
  have h1 := LongIn.W_fits hd i
  have h2 : d.W i / BP d.lb < 4294967296 := by rw [Nat.div_lt_iff_lt_mul (BP_pos _), ← BP_succ]; exact h1
  have h3 : d.W i / BP d.lb = d.W i / BP (d.lb - 1) / 4294967296 := by rw [← div_BP_succ, show d.lb - 1 + 1 = d.lb by have := hd.hlb; omega]
  clear h1
  generalize d.W i / BP d.lb = x at *
  generalize d.W i / BP (d.lb - 1) = y at *
  omega
/-- The digit of a quotient, and what is left. -/
theorem LongIn.digit (d : LongIn) (i : Nat) : d.U / d.V / BP i % 4294967296 = d.W i / d.V % 4294967296 := by
  unfold LongIn.W LongIn.R
  rw [Nat.div_div_eq_div_mul, Nat.mul_comm d.V, BP_succ]
  have h := Nat.div_add_mod d.U (4294967296 * BP i * d.V)
  have e : 4294967296 * BP i * d.V = BP i * d.V * 4294967296 := by rw [Nat.mul_assoc, Nat.mul_comm]
  have h2 : d.U / (BP i * d.V) % 4294967296 = d.U % (BP i * d.V * 4294967296) / (BP i * d.V) % 4294967296 := by
    rw [Nat.mod_mul_right_div_self, Nat.mod_mod]
  rw [h2, e, ← Nat.div_div_eq_div_mul]
theorem LongIn.R_next (d : LongIn) (i : Nat) : d.R i = BP i * (d.W i % d.V) + d.R (i + 1) % BP i := by
  have h : d.R i = d.R (i + 1) % (BP i * d.V) := by
    unfold LongIn.R
    rw [Nat.mod_mod_of_dvd]
    rw [BP_succ, Nat.mul_assoc]; exact Nat.dvd_mul_left _ _
  rw [h, mod_up]; rfl
theorem LongIn.R_low (d : LongIn) {i k : Nat} (h : k < i) : d.R i / BP k % 4294967296 = d.R (i + 1) / BP k % 4294967296 := by
  rw [LongIn.R_next, low_dig h]
  conv => rhs; rw [← Nat.div_add_mod (d.R (i + 1)) (BP i)]
  rw [low_dig h]
theorem LongIn.R_mid (d : LongIn) {i r : Nat} : d.R i / BP (i + r) = d.W i % d.V / BP r := by
  rw [LongIn.R_next, BP_add, ← Nat.div_div_eq_div_mul, add_mul_div_pos (BP_pos i), Nat.div_eq_of_lt (mod_BP_lt _ _), Nat.add_zero]
theorem LongIn.R_mid' (d : LongIn) {i r : Nat} : d.R (i + 1) / BP (i + r) = d.W i / BP r := by
  unfold LongIn.W; rw [BP_add, Nat.div_div_eq_div_mul]
theorem LongIn.R_high {d : LongIn} (hd : d.ok) {i k : Nat} (h : i + d.lb + 1 ≤ k) : d.R i / BP k = 0 ∧ d.R (i + 1) / BP k = 0 := by
  have h1 := LongIn.R_lt hd i
  have h2 := LongIn.R_lt hd (i + 1)
  have h3 := hd.hV
  have h4 : BP (i + 1 + d.lb) ≤ BP k := BP_mono (by omega)
  have h5 : BP (i + d.lb) ≤ BP k := BP_mono (by omega)
  rw [BP_add] at h4 h5
  have h6 : BP i * d.V ≤ BP i * BP d.lb := Nat.mul_le_mul_left _ (Nat.le_of_lt h3)
  have h7 : BP (i + 1) * d.V ≤ BP (i + 1) * BP d.lb := Nat.mul_le_mul_left _ (Nat.le_of_lt h3)
  exact ⟨Nat.div_eq_of_lt (by omega), Nat.div_eq_of_lt (by omega)⟩
theorem LongIn.start {d : LongIn} (hd : d.ok) : d.U < BP (d.la + 1 - d.lb) * d.V ∧ d.U < BP (d.la + 1) := by
  have h1 := hd.ha
  have h2 : 2 ^ d.n ≤ 2147483648 := by
    have := Nat.pow_le_pow_right (n := 2) (by omega) hd.hn
    simpa using this
  have h3 : d.U < BP d.la * 2147483648 := by
    unfold LongIn.U
    calc d.a * 2 ^ d.n ≤ d.a * 2147483648 := Nat.mul_le_mul_left _ h2
      _ < BP d.la * 2147483648 := by omega
  have h4 : BP (d.la + 1 - d.lb) * (2147483648 * BP (d.lb - 1)) ≤ BP (d.la + 1 - d.lb) * d.V := Nat.mul_le_mul_left _ hd.hV'
  have h5 : BP (d.la + 1 - d.lb) * (2147483648 * BP (d.lb - 1)) = BP d.la * 2147483648 := by
    rw [Nat.mul_left_comm, ← BP_add, Nat.mul_comm, show d.la + 1 - d.lb + (d.lb - 1) = d.la by have := hd.hlb; have := hd.hle; omega]
  refine ⟨by omega, ?_⟩
  rw [BP_succ]; omega
theorem LongIn.R_zero {d : LongIn} : d.R 0 / 2 ^ d.n = d.a % d.b := by
  unfold LongIn.R LongIn.U LongIn.V
  rw [BP_zero, Nat.one_mul, Nat.mul_mod_mul_right, Nat.mul_div_cancel _ (Nat.pow_pos (by omega))]
theorem LongIn.quot {d : LongIn} : d.U / d.V = d.a / d.b := by
  unfold LongIn.U LongIn.V
  rw [Nat.mul_div_mul_right _ _ (Nat.pow_pos (by omega))]
/-- Shifted so that the divisor's highest bit is set. -/
theorem LongIn.normal {a b : Nat} (hb : 2 ≤ (words b).length) (hab : b ≤ a) :
    LongIn.ok ⟨a, b, 32 - bl ((words b).getD ((words b).length - 1) 0), (words a).length, (words b).length⟩ := by
  have hb0 : b ≠ 0 := by rintro rfl; simp [words_zero] at hb
  have hlast := words_last hb0
  generalize hx : (words b).getD ((words b).length - 1) 0 = x at hlast ⊢
  have hxe : x = b / BP ((words b).length - 1) % 4294967296 := by rw [← hx, getD_val (dig_words b), val_words]
  have hlt := (len_le_iff b (words b).length).1 (Nat.le_refl _)
  have hdiv : b / BP ((words b).length - 1) < 4294967296 := by
    rw [Nat.div_lt_iff_lt_mul (BP_pos _), ← BP_succ, show (words b).length - 1 + 1 = (words b).length by omega]; exact hlt
  rw [Nat.mod_eq_of_lt hdiv] at hxe
  have h1 := bl_lt x
  have h2 := bl_le hlast
  have h3 := bl_pos hlast
  have h4 : bl x ≤ 32 := by
    rcases Nat.lt_or_ge 32 (bl x) with h | h
    · have : 2 ^ 32 ≤ 2 ^ (bl x - 1) := Nat.pow_le_pow_right (by omega) (by omega)
      have : (2:Nat) ^ 32 = 4294967296 := by decide
      omega
    · exact h
  have hp : 0 < 2 ^ (32 - bl x) := Nat.pow_pos (by omega)
  refine ⟨by show 32 - bl x ≤ 31; omega, hb, ?_, (len_le_iff a _).1 (Nat.le_refl _), ?_, ?_⟩
  · exact (len_le_iff b _).2 (Nat.lt_of_le_of_lt hab ((len_le_iff a _).1 (Nat.le_refl _)))
  · show b * 2 ^ (32 - bl x) < BP (words b).length
    have e : BP (words b).length = 4294967296 * BP ((words b).length - 1) := by rw [← BP_succ, show (words b).length - 1 + 1 = (words b).length by omega]
    have h5 : b < 2 ^ bl x * BP ((words b).length - 1) := by
      rw [← Nat.div_lt_iff_lt_mul (BP_pos _), ← hxe]; exact h1
    have h6 := Nat.mul_lt_mul_of_pos_right h5 hp
    rw [e]
    have h7 : 2 ^ bl x * BP ((words b).length - 1) * 2 ^ (32 - bl x) = 4294967296 * BP ((words b).length - 1) := by
      rw [Nat.mul_right_comm, ← Nat.pow_add, show bl x + (32 - bl x) = 32 by omega]
    omega
  · show 2147483648 * BP ((words b).length - 1) ≤ b * 2 ^ (32 - bl x)
    have h5 : 2 ^ (bl x - 1) * BP ((words b).length - 1) ≤ b := by
      rw [← Nat.le_div_iff_mul_le (BP_pos _), ← hxe]; exact h2
    have h6 := Nat.mul_le_mul_right (2 ^ (32 - bl x)) h5
    have h7 : 2 ^ (bl x - 1) * BP ((words b).length - 1) * 2 ^ (32 - bl x) = 2147483648 * BP ((words b).length - 1) := by
      rw [Nat.mul_right_comm, ← Nat.pow_add, show bl x - 1 + (32 - bl x) = 31 by omega]
    omega
end Lw
