/- Plain laws of sums, differences, products and quotients word by word. No condition. -/
import Derived.Test.YtfdllnbmjlhliaaGreatDoorLwK
namespace Lw

theorem div_mod_split (a P : Nat) : a = P * (a / P) + a % P := (Nat.div_add_mod a P).symm
theorem mod_BP_succ (a i : Nat) : a % BP (i + 1) = BP i * (a / BP i % 4294967296) + a % BP i := by
  rw [BP_succ, Nat.mul_comm, Nat.mod_mul]; omega
theorem add_mul_div_pos {P : Nat} (hP : 0 < P) (x y : Nat) : (P * x + y) / P = x + y / P := by rw [Nat.add_comm, Nat.add_mul_div_left _ _ hP, Nat.add_comm]
theorem mod_BP_lt (a i : Nat) : a % BP i < BP i := Nat.mod_lt _ (BP_pos i)
theorem div_BP_succ (a i : Nat) : a / BP (i + 1) = a / BP i / 4294967296 := by rw [BP_succ, Nat.mul_comm, Nat.div_div_eq_div_mul]

/-! ### Sums. -/
def cAdd (a b i : Nat) : Nat := (a % BP i + b % BP i) / BP i
theorem cAdd_zero (a b : Nat) : cAdd a b 0 = 0 := by unfold cAdd; rw [BP_zero, Nat.mod_one, Nat.mod_one]
theorem cAdd_le (a b i : Nat) : cAdd a b i ≤ 1 := by
  unfold cAdd
  have h1 := mod_BP_lt a i
  have h2 := mod_BP_lt b i
  rw [← Nat.lt_succ_iff, Nat.div_lt_iff_lt_mul (BP_pos i)]; omega
theorem cAdd_step (a b i : Nat) : cAdd a b (i + 1) = (cAdd a b i + (a / BP i % 4294967296 + b / BP i % 4294967296)) / 4294967296 := by
  unfold cAdd
  rw [mod_BP_succ, mod_BP_succ, div_BP_succ]
  congr 1
  have e : BP i * (a / BP i % 4294967296) + a % BP i + (BP i * (b / BP i % 4294967296) + b % BP i) = BP i * (a / BP i % 4294967296 + b / BP i % 4294967296) + (a % BP i + b % BP i) := by rw [Nat.mul_add]; omega
  rw [e, add_mul_div_pos (BP_pos i)]; omega
theorem cAdd_dig (a b i : Nat) : (cAdd a b i + (a / BP i % 4294967296 + b / BP i % 4294967296)) % 4294967296 = (a + b) / BP i % 4294967296 := by
  unfold cAdd
  have e : a + b = BP i * (a / BP i + b / BP i) + (a % BP i + b % BP i) := by
    have h1 := div_mod_split a (BP i)
    have h2 := div_mod_split b (BP i)
    rw [Nat.mul_add]; omega
  have e2 : (a + b) / BP i = a / BP i + b / BP i + (a % BP i + b % BP i) / BP i := by
    conv => lhs; rw [e]
    rw [add_mul_div_pos (BP_pos i)]
  rw [e2]; omega

/-! ### Differences. -/
def cSub (a b i : Nat) : Nat := if a % BP i < b % BP i then 1 else 0
theorem cSub_zero (a b : Nat) : cSub a b 0 = 0 := by unfold cSub; rw [BP_zero, Nat.mod_one, Nat.mod_one]; rfl
theorem cSub_le (a b i : Nat) : cSub a b i ≤ 1 := by unfold cSub; split <;> omega
theorem cSub_step (a b i : Nat) : cSub a b (i + 1) = if a / BP i % 4294967296 < b / BP i % 4294967296 + cSub a b i then 1 else 0 := by
  unfold cSub
  rw [mod_BP_succ, mod_BP_succ]
  have h1 := mod_BP_lt a i
  have h2 := mod_BP_lt b i
  generalize a / BP i % 4294967296 = x
  generalize b / BP i % 4294967296 = y
  generalize a % BP i = r at *
  generalize b % BP i = t at *
  generalize BP i = P at *
  rcases Nat.lt_trichotomy x y with h | h | h
  · have : P * (x + 1) ≤ P * y := Nat.mul_le_mul_left _ h
    rw [Nat.mul_add, Nat.mul_one] at this
    rw [if_pos (by omega), if_pos (by split <;> omega)]
  · subst h
    by_cases hc : r < t
    · rw [if_pos (by omega), if_pos hc, if_pos (by omega)]
    · rw [if_neg (by omega), if_neg hc, if_neg (by omega)]
  · have : P * (y + 1) ≤ P * x := Nat.mul_le_mul_left _ h
    rw [Nat.mul_add, Nat.mul_one] at this
    rw [if_neg (by omega), if_neg (by split <;> omega)]
theorem cSub_dig {a b : Nat} (h : b ≤ a) (i : Nat) : ((a / BP i % 4294967296 : Nat) - (b / BP i % 4294967296 : Nat) - (cSub a b i : Nat) : Int) % 4294967296 = ((a - b) / BP i % 4294967296 : Nat) := by
  unfold cSub
  have h1 := mod_BP_lt a i
  have h2 := mod_BP_lt b i
  have e : (a - b) / BP i = if a % BP i < b % BP i then a / BP i - b / BP i - 1 else a / BP i - b / BP i := by
    have p1 := div_mod_split a (BP i)
    have p2 := div_mod_split b (BP i)
    have p3 : b / BP i ≤ a / BP i := Nat.div_le_div_right h
    generalize a / BP i = x at *
    generalize b / BP i = y at *
    generalize a % BP i = r at *
    generalize b % BP i = t at *
    generalize hP : BP i = P at *
    have hP0 : 0 < P := by rw [← hP]; exact BP_pos i
    obtain ⟨z, rfl⟩ := Nat.exists_eq_add_of_le p3
    rw [Nat.mul_add] at p1
    split
    · rename_i hc
      have hz : 0 < z := by
        rcases Nat.eq_zero_or_pos z with hz | hz
        · subst hz; rw [Nat.mul_zero] at p1; omega
        · exact hz
      obtain ⟨u, rfl⟩ : ∃ u, z = u + 1 := ⟨z - 1, by omega⟩
      rw [Nat.mul_add, Nat.mul_one] at p1
      have : a - b = P * u + (P + r - t) := by omega
      rw [this, add_mul_div_pos hP0, Nat.div_eq_of_lt (by omega)]; omega
    · have : a - b = P * z + (r - t) := by omega
      rw [this, add_mul_div_pos hP0, Nat.div_eq_of_lt (by omega)]; omega
  rw [e]
  have p3 : b / BP i ≤ a / BP i := Nat.div_le_div_right h
  have p4 : a % BP i < b % BP i → b / BP i < a / BP i := by
    intro hc
    have p1 := div_mod_split a (BP i)
    have p2 := div_mod_split b (BP i)
    rcases Nat.lt_or_ge (b / BP i) (a / BP i) with h | h
    · exact h
    · have : a / BP i = b / BP i := by omega
      rw [this] at p1; omega
  split
  · have := p4 (by assumption); omega
  · omega

/-! ### Products: x times b added to T. -/
def cMul (T x b k : Nat) : Nat := (T % BP k + x * (b % BP k)) / BP k
theorem cMul_zero (T x b : Nat) : cMul T x b 0 = 0 := by unfold cMul; rw [BP_zero, Nat.mod_one, Nat.mod_one]; simp
theorem cMul_lt {x : Nat} (T b k : Nat) (hx : x < 4294967296) : cMul T x b k < 4294967296 := by
  unfold cMul
  rw [Nat.div_lt_iff_lt_mul (BP_pos k)]
  have h1 := mod_BP_lt T k
  have h2 := mod_BP_lt b k
  have h3 : x * (b % BP k) ≤ 4294967295 * (b % BP k) := Nat.mul_le_mul_right _ (by omega)
  omega
theorem cMul_sum (T x b k : Nat) : (T % BP (k + 1) + x * (b % BP (k + 1))) / BP k = cMul T x b k + (x * (b / BP k % 4294967296) + T / BP k % 4294967296) := by
  unfold cMul
  rw [mod_BP_succ, mod_BP_succ]
  have e : BP k * (T / BP k % 4294967296) + T % BP k + x * (BP k * (b / BP k % 4294967296) + b % BP k) = BP k * (x * (b / BP k % 4294967296) + T / BP k % 4294967296) + (T % BP k + x * (b % BP k)) := by
    rw [Nat.mul_add, Nat.mul_add, Nat.mul_left_comm x]; omega
  rw [e, add_mul_div_pos (BP_pos k)]; omega
theorem cMul_step (T x b k : Nat) : cMul T x b (k + 1) = (cMul T x b k + (x * (b / BP k % 4294967296) + T / BP k % 4294967296)) / 4294967296 := by
  rw [← cMul_sum]
  unfold cMul
  rw [div_BP_succ]
theorem cMul_dig (T x b k : Nat) : (cMul T x b k + (x * (b / BP k % 4294967296) + T / BP k % 4294967296)) % 4294967296 = (T + x * b) / BP k % 4294967296 := by
  unfold cMul
  have h1 := div_mod_split T (BP k)
  have h2 := div_mod_split b (BP k)
  have e : T + x * b = BP k * (T / BP k + x * (b / BP k)) + (T % BP k + x * (b % BP k)) := by
    conv => lhs; rw [h1, h2]
    rw [Nat.mul_add, Nat.mul_add, Nat.mul_left_comm x]; omega
  have e2 : (T + x * b) / BP k = T / BP k + x * (b / BP k) + (T % BP k + x * (b % BP k)) / BP k := by
    conv => lhs; rw [e]
    rw [add_mul_div_pos (BP_pos k)]
  rw [e2]
  have e3 : x * (b / BP k % 4294967296) % 4294967296 = x * (b / BP k) % 4294967296 := by rw [Nat.mul_mod, Nat.mod_mod, ← Nat.mul_mod]
  omega
theorem cMul_end {T x b k : Nat} (hT : T < BP k) (hb : b < BP k) : cMul T x b k = (T + x * b) / BP k := by
  unfold cMul
  rw [Nat.mod_eq_of_lt hT, Nat.mod_eq_of_lt hb]

/-! ### Quotients by one word. -/
theorem short_step {d : Nat} (a i : Nat) (hd : 0 < d) : ((a / BP (i + 1) % d) * 4294967296 + a / BP i % 4294967296) / d % 4294967296 = a / d / BP i % 4294967296 ∧
    ((a / BP (i + 1) % d) * 4294967296 + a / BP i % 4294967296) % d = a / BP i % d ∧ ((a / BP (i + 1) % d) * 4294967296 + a / BP i % 4294967296) / d < 4294967296 := by
  rw [Nat.div_div_eq_div_mul a d, Nat.mul_comm d, ← Nat.div_div_eq_div_mul a _ d, div_BP_succ]
  generalize a / BP i = A
  have h1 := div_mod_split (A / 4294967296) d
  have h2 := Nat.mod_lt (A / 4294967296) hd
  have h3 : A = 4294967296 * (A / 4294967296) + A % 4294967296 := div_mod_split _ _
  generalize A / 4294967296 / d = q at *
  generalize A / 4294967296 % d = r at *
  have hlt : r * 4294967296 + A % 4294967296 < d * 4294967296 := by
    have : (r + 1) * 4294967296 ≤ d * 4294967296 := Nat.mul_le_mul_right _ h2
    omega
  have e : A = d * (4294967296 * q) + (r * 4294967296 + A % 4294967296) := by
    conv => lhs; rw [h3, h1]
    rw [Nat.mul_add, Nat.mul_left_comm]; omega
  have hq : (r * 4294967296 + A % 4294967296) / d < 4294967296 := by rw [Nat.div_lt_iff_lt_mul hd]; omega
  have e2 : A / d = 4294967296 * q + (r * 4294967296 + A % 4294967296) / d := by
    conv => lhs; rw [e]
    rw [add_mul_div_pos hd]
  refine ⟨by rw [e2]; omega, ?_, hq⟩
  conv => rhs; rw [e]
  rw [Nat.mul_add_mod]
end Lw
