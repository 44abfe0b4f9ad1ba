/- Numbers as words to the base 2^32, in plain lists. No condition. -/
import Derived.Test.YtfdllnbmjlhliaaGreatDoorLwJ
namespace Lw
open Go Go.RowKit

def val : List Nat → Nat
  | [] => 0
  | d :: l => d + 4294967296 * val l
def Dig (l : List Nat) : Prop := ∀ x ∈ l, x < 4294967296
def wordsF : Nat → Nat → List Nat
  | 0, _ => []
  | f + 1, n => if n = 0 then [] else n % 4294967296 :: wordsF f (n / 4294967296)
def words (n : Nat) : List Nat := wordsF n n

theorem wordsF_fuel : ∀ (f g n : Nat), n ≤ f → n ≤ g → wordsF f n = wordsF g n
  | 0, 0, _, _, _ => rfl
  | 0, g + 1, n, h, _ => by have : n = 0 := by omega
                            subst this; rfl
  | f + 1, 0, n, _, h => by have : n = 0 := by omega
                            subst this; rfl
  | f + 1, g + 1, n, h, h' => by
    simp only [wordsF]
    split
    · rfl
    · rw [wordsF_fuel f g _ (by omega) (by omega)]
theorem words_zero : words 0 = [] := rfl
theorem words_pos {n : Nat} (h : n ≠ 0) : words n = n % 4294967296 :: words (n / 4294967296) := by
  cases n with
  | zero => exact absurd rfl h
  | succ n =>
    show (if n + 1 = 0 then [] else (n + 1) % 4294967296 :: wordsF n ((n + 1) / 4294967296)) = _
    rw [if_neg h]
    congr 1
    exact wordsF_fuel _ _ _ (by omega) (Nat.le_refl _)
theorem val_words (n : Nat) : val (words n) = n := by
  induction n using Nat.strongRecOn with
  | _ n ih =>
    by_cases h : n = 0
    · subst h; rfl
    · rw [words_pos h]
      simp only [val]
      rw [ih _ (by omega)]
      omega
theorem dig_words (n : Nat) : Dig (words n) := by
  induction n using Nat.strongRecOn with
  | _ n ih =>
    by_cases h : n = 0
    · subst h; intro x hx; cases hx
    · rw [words_pos h]
      intro x hx
      rcases List.mem_cons.1 hx with rfl | hx
      · omega
      · exact ih _ (by omega) x hx
theorem Dig.tail {d : Nat} {l : List Nat} (h : Dig (d :: l)) : Dig l := fun x hx => h x (List.mem_cons_of_mem _ hx)
theorem Dig.head {d : Nat} {l : List Nat} (h : Dig (d :: l)) : d < 4294967296 := h d (by simp)
theorem Dig.take {l : List Nat} (h : Dig l) (k : Nat) : Dig (l.take k) := fun x hx => h x (List.mem_of_mem_take hx)
theorem Dig.getD {l : List Nat} (h : Dig l) (i : Nat) : l.getD i 0 < 4294967296 := by
  rw [List.getD_eq_getElem?_getD]
  cases hq : l[i]? with
  | none => simp
  | some x => exact h x (List.mem_of_getElem? hq)
/-- The words of a list's number: the list without zeros at its end. -/
theorem words_val : ∀ {l : List Nat}, Dig l → (words (val l)).length ≤ l.length ∧ words (val l) = l.take (words (val l)).length ∧ (∀ i, (words (val l)).length ≤ i → l.getD i 0 = 0) ∧
    (0 < (words (val l)).length → l.getD ((words (val l)).length - 1) 0 ≠ 0)
  | [], _ => by
    refine ⟨Nat.le_refl _, rfl, fun i _ => by simp, fun h => ?_⟩
    exact absurd h (by simp [val, words_zero])
  | d :: l, h => by
    obtain ⟨h1, h2, h3, h4⟩ := words_val h.tail
    have hd := h.head
    by_cases hz : d + 4294967296 * val l = 0
    · have e : words (val (d :: l)) = [] := by
        show words (d + 4294967296 * val l) = []
        rw [hz]; rfl
      have e0 : val l = 0 := by omega
      rw [e0] at h3
      rw [e]
      refine ⟨Nat.zero_le _, rfl, fun i _ => ?_, fun h => absurd h (by simp)⟩
      cases i with
      | zero => simp; omega
      | succ i => simpa using h3 i (by simp [words_zero])
    · have e : words (val (d :: l)) = d :: words (val l) := by
        show words (d + 4294967296 * val l) = _
        rw [words_pos hz]
        congr 1
        · omega
        · congr 1; omega
      rw [e]
      refine ⟨by simp; omega, ?_, fun i hi => ?_, fun _ => ?_⟩
      · simp only [List.length_cons, List.take_succ_cons]
        rw [← h2]
      · cases i with
        | zero => simp at hi
        | succ i => simpa using h3 i (by simpa using hi)
      · by_cases hl : 0 < (words (val l)).length
        · have := h4 hl
          have e2 : (d :: words (val l)).length - 1 = ((words (val l)).length - 1) + 1 := by simp; omega
          rw [e2, List.getD_cons_succ]; exact this
        · have e0 : words (val l) = [] := List.eq_nil_of_length_eq_zero (by omega)
          have : val l = 0 := by rw [← val_words (val l), e0]; rfl
          rw [e0]
          simp; omega
theorem words_last {n : Nat} (h : n ≠ 0) : (words n).getD ((words n).length - 1) 0 ≠ 0 := by
  have := (words_val (dig_words n)).2.2.2
  rw [val_words] at this
  refine this ?_
  rw [words_pos h]; simp
/-- A list with no zero at its end is the words of its number. -/
theorem words_canon {l : List Nat} (h : Dig l) (hl : l ≠ [] → l.getD (l.length - 1) 0 ≠ 0) : words (val l) = l := by
  obtain ⟨h1, h2, h3, -⟩ := words_val h
  rcases Nat.lt_or_ge (words (val l)).length l.length with hlt | hge
  · exfalso
    have hne : l ≠ [] := by rintro rfl; simp at hlt
    exact hl hne (h3 _ (by omega))
  · rw [h2, List.take_of_length_le hge]
theorem words_nil {n : Nat} : words n = [] ↔ n = 0 := by
  constructor
  · intro h; rw [← val_words n, h]; rfl
  · rintro rfl; rfl
theorem words_len_pos {n : Nat} (h : n ≠ 0) : 0 < (words n).length := by rw [words_pos h]; simp

/-- Powers of the base. -/
def BP (i : Nat) : Nat := 4294967296 ^ i
theorem BP_zero : BP 0 = 1 := by unfold BP; exact Nat.pow_zero _
theorem BP_succ (i : Nat) : BP (i + 1) = 4294967296 * BP i := by unfold BP; rw [Nat.pow_succ, Nat.mul_comm]
theorem BP_pos (i : Nat) : 0 < BP i := Nat.pow_pos (by omega)
theorem BP_add (i j : Nat) : BP (i + j) = BP i * BP j := by unfold BP; exact Nat.pow_add _ _ _
theorem BP_mono {i j : Nat} (h : i ≤ j) : BP i ≤ BP j := Nat.pow_le_pow_right (by omega) h
theorem val_lt {l : List Nat} (h : Dig l) : val l < BP l.length := by
  induction l with
  | nil => simp [val, BP_zero]
  | cons d l ih =>
    have h1 := ih h.tail
    have h2 := h.head
    simp only [val, List.length_cons, BP_succ]
    omega
/-- A word of a list. -/
theorem getD_val {l : List Nat} (h : Dig l) (i : Nat) : l.getD i 0 = val l / BP i % 4294967296 := by
  induction l generalizing i with
  | nil => simp [val]
  | cons d l ih =>
    have h2 := h.head
    cases i with
    | zero => simp only [List.getD_cons_zero, val, BP_zero, Nat.div_one]; omega
    | succ i =>
      rw [List.getD_cons_succ, ih h.tail, BP_succ, ← Nat.div_div_eq_div_mul]
      simp only [val]
      congr 2
      omega
theorem len_le_iff (n k : Nat) : (words n).length ≤ k ↔ n < BP k := by
  induction k generalizing n with
  | zero =>
    rw [BP_zero]
    constructor
    · intro h
      have := words_nil.1 (List.eq_nil_of_length_eq_zero (Nat.le_zero.1 h)); omega
    · intro h
      have : n = 0 := by omega
      subst this; simp [words_zero]
  | succ k ih =>
    by_cases h : n = 0
    · subst h; simp [words_zero, BP_pos]
    · rw [words_pos h, List.length_cons, Nat.add_le_add_iff_right, ih, BP_succ, Nat.div_lt_iff_lt_mul (by omega), Nat.mul_comm]
/-- N digits of a number. -/
def digs (N n : Nat) : List Nat := (List.range N).map fun j => n / BP j % 4294967296
theorem digs_len (N n : Nat) : (digs N n).length = N := by simp [digs]
theorem digs_dig (N n : Nat) : Dig (digs N n) := by
  intro x hx
  simp only [digs, List.mem_map] at hx
  obtain ⟨j, _, rfl⟩ := hx
  exact Nat.mod_lt _ (by omega)
theorem digs_getD {N n i : Nat} (h : i < N) : (digs N n).getD i 0 = n / BP i % 4294967296 := by simp [digs, List.getD_eq_getElem?_getD, h]
theorem digs_succ (N n : Nat) : digs (N + 1) n = n % 4294967296 :: digs N (n / 4294967296) := by
  unfold digs
  rw [List.range_succ_eq_map, List.map_cons, List.map_map]
  have h1 : n / BP 0 % 4294967296 = n % 4294967296 := by rw [BP_zero, Nat.div_one]
  rw [h1]
  refine congrArg _ (List.map_congr_left fun j _ => ?_)
  rw [Function.comp_apply, Nat.succ_eq_add_one, BP_succ, Nat.div_div_eq_div_mul]
theorem val_digs {N n : Nat} (h : n < BP N) : val (digs N n) = n := by
  induction N generalizing n with
  | zero => rw [BP_zero] at h; simp [digs, val]; omega
  | succ N ih =>
    rw [BP_succ] at h
    rw [digs_succ]
    simp only [val]
    rw [ih (by rw [Nat.div_lt_iff_lt_mul (by omega), Nat.mul_comm]; exact h)]
    omega
end Lw
