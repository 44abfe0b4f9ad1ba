/- Loops by runs of their rounds; sizes and signs of machine words. No condition. -/
import Derived.Test.YtmcpfihkambgnaaGreatLwI
import Derived.KernelRfl
import Derived.Test.YtmcpfihkambgnaaGreatProg
namespace Lw
open Go Go.RowKit

variable {P : Program} {Good : World → Prop}

/-- A run, and then what is kept. -/
def runKeep (P : Program) {Good : World → Prop} (m : Nat) (ro : List Nat) (gb : Nat) (k : Code) (s : St) (tr : List (Item P Good)) (kT kB kN : List Nat) : Option (XEnd × List D × List (Option (List D)) × List (Item P Good) × List (Got × Got)) :=
  match runC P m ro gb k s tr with
  | some (e, s1, tr', eqs) => if maskOk gb kT kB kN s1 then some (e, kT.map (fun t => s1.tmps.getD t .any), kB.map (fun b => s1.blks.getD b none), tr', eqs) else none
  | none => none
/-- One round comes to this end and to a frame of which this much is kept. -/
def Goes (P : Program) (Good : World → Prop) (gb : Nat) (k : Code) (s : St) (e : XEnd) (s' : St) : Prop :=
  ∃ s1 kT kB kN, Shows P Good gb k s e s1 ∧ maskOk gb kT kB kN s1 = true ∧ (s1.mask kT kB kN).fs = s'.fs
theorem Goes.of_run (hG : Steady Good) {ro : List Nat} {gb m n : Nat} {k : Code} {s : St} {l : List (Nat × D)} {bl : List (Nat × List D)} {ns : List Nat} {e : XEnd} (hn : s.tmps.length = n) (tr : List (Item P Good))
    (h : runKeep P m ro gb k s tr (l.map (·.1)) (bl.map (·.1)) ns = some (e, l.map (·.2), bl.map (fun p => some p.2), [], said tr)) : Goes P Good gb k s e (lay n l bl ns) := by
  unfold runKeep at h
  split at h
  · rename_i e1 s1 tr1 eqs1 hr
    split at h
    · rename_i hok
      simp only [Option.some.injEq, Prod.mk.injEq, List.map_map] at h
      obtain ⟨rfl, h1, h2, rfl, rfl⟩ := h
      have hs := Shows.of_run hG tr hr
      exact ⟨s1, _, _, _, hs, hok, mask_lay (hs.1.trans hn) h1 h2⟩
    · cases h
  · cases h

/-- ████ A loop whose rounds are counted: 'inv i' is the frame at the head of round i, n of them go round, and the last one leaves. -/
theorem Abs.count {gb : Nat} {body : Code} (inv : Nat → St) (n : Nat) {len : Nat} {e : XEnd} {s' : St} (hlen : ∀ i, (inv i).tmps.length = len) (he : e ≠ .normal)
    (round : ∀ i, i < n → Goes P Good gb body (inv i) .normal (inv (i + 1))) (last : Goes P Good gb body (inv n) e s') : Abs P Good len gb (.loop body) (inv 0) e s' := by
  refine Shows.loop (fun i => i ≤ n) inv (fun i => n - i) hlen he (fun i hi => ?_) 0 (Nat.zero_le _)
  rcases Nat.lt_or_ge i n with h | h
  · obtain ⟨s1, kT, kB, kN, h1, h2, h3⟩ := round i h
    exact .inl ⟨i + 1, s1, kT, kB, kN, h, by omega, h1, h2, h3⟩
  · have : i = n := by omega
    subst this
    exact .inr last
/-- The same with a round before which it may leave: 'stop i' is the first one. -/
theorem Abs.rounds {ι : Type} {gb : Nat} {body : Code} (R : ι → Prop) (inv : ι → St) (μ : ι → Nat) {len : Nat} {e : XEnd} {s' : St} (hlen : ∀ i, (inv i).tmps.length = len) (he : e ≠ .normal)
    (round : ∀ i, R i → (∃ j, R j ∧ μ j < μ i ∧ Goes P Good gb body (inv i) .normal (inv j)) ∨ Goes P Good gb body (inv i) e s') (i : ι) (hi : R i) : Abs P Good len gb (.loop body) (inv i) e s' := by
  refine Shows.loop R inv μ hlen he (fun i hi => ?_) i hi
  rcases round i hi with ⟨j, h0, h1, s1, kT, kB, kN, h2, h3, h4⟩ | h
  · exact .inl ⟨j, s1, kT, kB, kN, h0, h1, h2, h3, h4⟩
  · exact .inr h

/-- The loops of a body, in the order of the text, outer ones first. -/
def Code.loops : Code → List Code
  | .seq x y => Code.loops x ++ Code.loops y
  | .cond _ x y => Code.loops x ++ Code.loops y
  | .block _ x => Code.loops x
  | .loop x => x :: Code.loops x
  | _ => []
def loopOf (fn : Func) (i : Nat) : Code := ((fn.body.map Code.loops).getD []).getD i .skip
theorem eqI {k : IntKind} {x y : Int} (h : x = y) : D.lit (.int k x) = D.lit (.int k y) := by rw [h]
theorem eqB {x y : Bool} (h : x = y) : D.lit (.bool x) = D.lit (.bool y) := by rw [h]

/-! ### Machine words. -/
theorem wrap64i {n : Int} : IntKind.wrap .u64 n = n % 18446744073709551616 := by
  have e : (2 ^ IntKind.bits .u64 : Int) = 18446744073709551616 := by decide
  simp only [IntKind.wrap, IntKind.signed, e, Bool.false_and, Bool.false_eq_true, if_false]
theorem wrap32i {n : Int} : IntKind.wrap .u32 n = n % 4294967296 := by
  have e : (2 ^ IntKind.bits .u32 : Int) = 4294967296 := by decide
  simp only [IntKind.wrap, IntKind.signed, e, Bool.false_and, Bool.false_eq_true, if_false]
theorem wrap64 {n : Nat} (h : n < 18446744073709551616) : IntKind.wrap .u64 (n : Int) = (n : Int) := by rw [wrap64i]; omega
theorem wrap32 {n : Nat} : IntKind.wrap .u32 (n : Int) = ((n % 4294967296 : Nat) : Int) := by rw [wrap32i]; omega
theorem wrapS {n : Int} (h : -9223372036854775808 ≤ n) (h' : n < 9223372036854775808) : IntKind.wrap .i64 n = n := by
  have e : (2 ^ IntKind.bits .i64 : Int) = 18446744073709551616 := by decide
  have e' : (2 ^ (IntKind.bits .i64 - 1) : Int) = 9223372036854775808 := by decide
  simp only [IntKind.wrap, IntKind.signed, e, e', Bool.true_and]
  by_cases hc : n % 18446744073709551616 ≥ 9223372036854775808
  · rw [if_pos (by simpa using hc)]; omega
  · rw [if_neg (by simpa using hc)]; omega
end Lw

namespace Lw
open Go Go.RowKit

def val : List Nat → Nat
  | [] => 0
  | d :: l => d + 4294967296 * val l
def Dig (l : List Nat) : Prop := ∀ x ∈ l, x < 4294967296
def wordsF : Nat → Nat → List Nat
  | 0, _ => []
  | f + 1, n => if n = 0 then [] else n % 4294967296 :: wordsF f (n / 4294967296)
def words (n : Nat) : List Nat := wordsF n n

theorem wordsF_fuel : ∀ (f g n : Nat), n ≤ f → n ≤ g → wordsF f n = wordsF g n
  | 0, 0, _, _, _ => rfl
  | 0, g + 1, n, h, _ => by have : n = 0 := by omega
                            subst this; rfl
  | f + 1, 0, n, _, h => by have : n = 0 := by omega
                            subst this; rfl
  | f + 1, g + 1, n, h, h' => by
    simp only [wordsF]
    split
    · rfl
    · rw [wordsF_fuel f g _ (by omega) (by omega)]
theorem words_zero : words 0 = [] := rfl
theorem words_pos {n : Nat} (h : n ≠ 0) : words n = n % 4294967296 :: words (n / 4294967296) := by
  cases n with
  | zero => exact absurd rfl h
  | succ n =>
    show (if n + 1 = 0 then [] else (n + 1) % 4294967296 :: wordsF n ((n + 1) / 4294967296)) = _
    rw [if_neg h]
    congr 1
    exact wordsF_fuel _ _ _ (by omega) (Nat.le_refl _)
theorem val_words (n : Nat) : val (words n) = n := by
  induction n using Nat.strongRecOn with
  | _ n ih =>
    by_cases h : n = 0
    · subst h; rfl
    · rw [words_pos h]
      simp only [val]
      rw [ih _ (by omega)]
      omega
theorem dig_words (n : Nat) : Dig (words n) := by
  induction n using Nat.strongRecOn with
  | _ n ih =>
    by_cases h : n = 0
    · subst h; intro x hx; cases hx
    · rw [words_pos h]
      intro x hx
      rcases List.mem_cons.1 hx with rfl | hx
      · omega
      · exact ih _ (by omega) x hx
theorem Dig.tail {d : Nat} {l : List Nat} (h : Dig (d :: l)) : Dig l := fun x hx => h x (List.mem_cons_of_mem _ hx)
theorem Dig.head {d : Nat} {l : List Nat} (h : Dig (d :: l)) : d < 4294967296 := h d (by simp)
theorem Dig.take {l : List Nat} (h : Dig l) (k : Nat) : Dig (l.take k) := fun x hx => h x (List.mem_of_mem_take hx)
theorem Dig.getD {l : List Nat} (h : Dig l) (i : Nat) : l.getD i 0 < 4294967296 := by
  rw [List.getD_eq_getElem?_getD]
  cases hq : l[i]? with
  | none => simp
  | some x => exact h x (List.mem_of_getElem? hq)
/-- The words of a list's number: the list without zeros at its end. -/
theorem words_val : ∀ {l : List Nat}, Dig l → (words (val l)).length ≤ l.length ∧ words (val l) = l.take (words (val l)).length ∧ (∀ i, (words (val l)).length ≤ i → l.getD i 0 = 0) ∧
    (0 < (words (val l)).length → l.getD ((words (val l)).length - 1) 0 ≠ 0)
  | [], _ => by
    refine ⟨Nat.le_refl _, rfl, fun i _ => by simp, fun h => ?_⟩
    exact absurd h (by simp [val, words_zero])
  | d :: l, h => by
    obtain ⟨h1, h2, h3, h4⟩ := words_val h.tail
    have hd := h.head
    by_cases hz : d + 4294967296 * val l = 0
    · have e : words (val (d :: l)) = [] := by
        show words (d + 4294967296 * val l) = []
        rw [hz]; rfl
      have e0 : val l = 0 := by omega
      rw [e0] at h3
      rw [e]
      refine ⟨Nat.zero_le _, rfl, fun i _ => ?_, fun h => absurd h (by simp)⟩
      cases i with
      | zero => simp; omega
      | succ i => simpa using h3 i (by simp [words_zero])
    · have e : words (val (d :: l)) = d :: words (val l) := by
        show words (d + 4294967296 * val l) = _
        rw [words_pos hz]
        congr 1
        · omega
        · congr 1; omega
      rw [e]
      refine ⟨by simp; omega, ?_, fun i hi => ?_, fun _ => ?_⟩
      · simp only [List.length_cons, List.take_succ_cons]
        rw [← h2]
      · cases i with
        | zero => simp at hi
        | succ i => simpa using h3 i (by simpa using hi)
      · by_cases hl : 0 < (words (val l)).length
        · have := h4 hl
          have e2 : (d :: words (val l)).length - 1 = ((words (val l)).length - 1) + 1 := by simp; omega
          rw [e2, List.getD_cons_succ]; exact this
        · have e0 : words (val l) = [] := List.eq_nil_of_length_eq_zero (by omega)
          have : val l = 0 := by rw [← val_words (val l), e0]; rfl
          rw [e0]
          simp; omega
theorem words_last {n : Nat} (h : n ≠ 0) : (words n).getD ((words n).length - 1) 0 ≠ 0 := by
  have := (words_val (dig_words n)).2.2.2
  rw [val_words] at this
  refine this ?_
  rw [words_pos h]; simp
/-- A list with no zero at its end is the words of its number. -/
theorem words_canon {l : List Nat} (h : Dig l) (hl : l ≠ [] → l.getD (l.length - 1) 0 ≠ 0) : words (val l) = l := by
  obtain ⟨h1, h2, h3, -⟩ := words_val h
  rcases Nat.lt_or_ge (words (val l)).length l.length with hlt | hge
  · exfalso
    have hne : l ≠ [] := by rintro rfl; simp at hlt
    exact hl hne (h3 _ (by omega))
  · rw [h2, List.take_of_length_le hge]
theorem words_nil {n : Nat} : words n = [] ↔ n = 0 := by
  constructor
  · intro h; rw [← val_words n, h]; rfl
  · rintro rfl; rfl
theorem words_len_pos {n : Nat} (h : n ≠ 0) : 0 < (words n).length := by rw [words_pos h]; simp

/-- Powers of the base. -/
def BP (i : Nat) : Nat := 4294967296 ^ i
theorem BP_zero : BP 0 = 1 := by unfold BP; exact Nat.pow_zero _
theorem BP_succ (i : Nat) : BP (i + 1) = 4294967296 * BP i := by unfold BP; rw [Nat.pow_succ, Nat.mul_comm]
theorem BP_pos (i : Nat) : 0 < BP i := Nat.pow_pos (by omega)
theorem BP_add (i j : Nat) : BP (i + j) = BP i * BP j := by unfold BP; exact Nat.pow_add _ _ _
theorem BP_mono {i j : Nat} (h : i ≤ j) : BP i ≤ BP j := Nat.pow_le_pow_right (by omega) h
theorem val_lt {l : List Nat} (h : Dig l) : val l < BP l.length := by
  induction l with
  | nil => simp [val, BP_zero]
  | cons d l ih =>
    have h1 := ih h.tail
    have h2 := h.head
    simp only [val, List.length_cons, BP_succ]
    omega
/-- A word of a list. -/
theorem getD_val {l : List Nat} (h : Dig l) (i : Nat) : l.getD i 0 = val l / BP i % 4294967296 := by
  induction l generalizing i with
  | nil => simp [val]
  | cons d l ih =>
    have h2 := h.head
    cases i with
    | zero => simp only [List.getD_cons_zero, val, BP_zero, Nat.div_one]; omega
    | succ i =>
      rw [List.getD_cons_succ, ih h.tail, BP_succ, ← Nat.div_div_eq_div_mul]
      simp only [val]
      congr 2
      omega
theorem len_le_iff (n k : Nat) : (words n).length ≤ k ↔ n < BP k := by
  induction k generalizing n with
  | zero =>
    rw [BP_zero]
    constructor
    · intro h
      have := words_nil.1 (List.eq_nil_of_length_eq_zero (Nat.le_zero.1 h)); omega
    · intro h
      have : n = 0 := by omega
      subst this; simp [words_zero]
  | succ k ih =>
    by_cases h : n = 0
    · subst h; simp [words_zero, BP_pos]
    · rw [words_pos h, List.length_cons, Nat.add_le_add_iff_right, ih, BP_succ, Nat.div_lt_iff_lt_mul (by omega), Nat.mul_comm]
/-- N digits of a number. -/
def digs (N n : Nat) : List Nat := (List.range N).map fun j => n / BP j % 4294967296
theorem digs_len (N n : Nat) : (digs N n).length = N := by simp [digs]
theorem digs_dig (N n : Nat) : Dig (digs N n) := by
  intro x hx
  simp only [digs, List.mem_map] at hx
  obtain ⟨j, _, rfl⟩ := hx
  exact Nat.mod_lt _ (by omega)
theorem digs_getD {N n i : Nat} (h : i < N) : (digs N n).getD i 0 = n / BP i % 4294967296 := by simp [digs, List.getD_eq_getElem?_getD, h]
theorem digs_succ (N n : Nat) : digs (N + 1) n = n % 4294967296 :: digs N (n / 4294967296) := by
  unfold digs
  rw [List.range_succ_eq_map, List.map_cons, List.map_map]
  have h1 : n / BP 0 % 4294967296 = n % 4294967296 := by rw [BP_zero, Nat.div_one]
  rw [h1]
  refine congrArg _ (List.map_congr_left fun j _ => ?_)
  rw [Function.comp_apply, Nat.succ_eq_add_one, BP_succ, Nat.div_div_eq_div_mul]
theorem val_digs {N n : Nat} (h : n < BP N) : val (digs N n) = n := by
  induction N generalizing n with
  | zero => rw [BP_zero] at h; simp [digs, val]; omega
  | succ N ih =>
    rw [BP_succ] at h
    rw [digs_succ]
    simp only [val]
    rw [ih (by rw [Nat.div_lt_iff_lt_mul (by omega), Nat.mul_comm]; exact h)]
    omega
end Lw

namespace Lw

theorem div_mod_split (a P : Nat) : a = P * (a / P) + a % P := (Nat.div_add_mod a P).symm
theorem mod_BP_succ (a i : Nat) : a % BP (i + 1) = BP i * (a / BP i % 4294967296) + a % BP i := by
  rw [BP_succ, Nat.mul_comm, Nat.mod_mul]; omega
theorem add_mul_div_pos {P : Nat} (hP : 0 < P) (x y : Nat) : (P * x + y) / P = x + y / P := by rw [Nat.add_comm, Nat.add_mul_div_left _ _ hP, Nat.add_comm]
theorem mod_BP_lt (a i : Nat) : a % BP i < BP i := Nat.mod_lt _ (BP_pos i)
theorem div_BP_succ (a i : Nat) : a / BP (i + 1) = a / BP i / 4294967296 := by rw [BP_succ, Nat.mul_comm, Nat.div_div_eq_div_mul]

/-! ### Sums. -/
def cAdd (a b i : Nat) : Nat := (a % BP i + b % BP i) / BP i
theorem cAdd_zero (a b : Nat) : cAdd a b 0 = 0 := by unfold cAdd; rw [BP_zero, Nat.mod_one, Nat.mod_one]
theorem cAdd_le (a b i : Nat) : cAdd a b i ≤ 1 := by
  unfold cAdd
  have h1 := mod_BP_lt a i
  have h2 := mod_BP_lt b i
  rw [← Nat.lt_succ_iff, Nat.div_lt_iff_lt_mul (BP_pos i)]; omega
theorem cAdd_step (a b i : Nat) : cAdd a b (i + 1) = (cAdd a b i + (a / BP i % 4294967296 + b / BP i % 4294967296)) / 4294967296 := by
  unfold cAdd
  rw [mod_BP_succ, mod_BP_succ, div_BP_succ]
  congr 1
  have e : BP i * (a / BP i % 4294967296) + a % BP i + (BP i * (b / BP i % 4294967296) + b % BP i) = BP i * (a / BP i % 4294967296 + b / BP i % 4294967296) + (a % BP i + b % BP i) := by rw [Nat.mul_add]; omega
  rw [e, add_mul_div_pos (BP_pos i)]; omega
theorem cAdd_dig (a b i : Nat) : (cAdd a b i + (a / BP i % 4294967296 + b / BP i % 4294967296)) % 4294967296 = (a + b) / BP i % 4294967296 := by
  unfold cAdd
  have e : a + b = BP i * (a / BP i + b / BP i) + (a % BP i + b % BP i) := by
    have h1 := div_mod_split a (BP i)
    have h2 := div_mod_split b (BP i)
    rw [Nat.mul_add]; omega
  have e2 : (a + b) / BP i = a / BP i + b / BP i + (a % BP i + b % BP i) / BP i := by
    conv => lhs; rw [e]
    rw [add_mul_div_pos (BP_pos i)]
  rw [e2]; omega

/-! ### Differences. -/
def cSub (a b i : Nat) : Nat := if a % BP i < b % BP i then 1 else 0
theorem cSub_zero (a b : Nat) : cSub a b 0 = 0 := by unfold cSub; rw [BP_zero, Nat.mod_one, Nat.mod_one]; rfl
theorem cSub_le (a b i : Nat) : cSub a b i ≤ 1 := by unfold cSub; split <;> omega
theorem cSub_step (a b i : Nat) : cSub a b (i + 1) = if a / BP i % 4294967296 < b / BP i % 4294967296 + cSub a b i then 1 else 0 := by
  unfold cSub
  rw [mod_BP_succ, mod_BP_succ]
  have h1 := mod_BP_lt a i
  have h2 := mod_BP_lt b i
  generalize a / BP i % 4294967296 = x
  generalize b / BP i % 4294967296 = y
  generalize a % BP i = r at *
  generalize b % BP i = t at *
  generalize BP i = P at *
  rcases Nat.lt_trichotomy x y with h | h | h
  · have : P * (x + 1) ≤ P * y := Nat.mul_le_mul_left _ h
    rw [Nat.mul_add, Nat.mul_one] at this
    rw [if_pos (by omega), if_pos (by split <;> omega)]
  · subst h
    by_cases hc : r < t
    · rw [if_pos (by omega), if_pos hc, if_pos (by omega)]
    · rw [if_neg (by omega), if_neg hc, if_neg (by omega)]
  · have : P * (y + 1) ≤ P * x := Nat.mul_le_mul_left _ h
    rw [Nat.mul_add, Nat.mul_one] at this
    rw [if_neg (by omega), if_neg (by split <;> omega)]
theorem cSub_dig {a b : Nat} (h : b ≤ a) (i : Nat) : ((a / BP i % 4294967296 : Nat) - (b / BP i % 4294967296 : Nat) - (cSub a b i : Nat) : Int) % 4294967296 = ((a - b) / BP i % 4294967296 : Nat) := by
  unfold cSub
  have h1 := mod_BP_lt a i
  have h2 := mod_BP_lt b i
  have e : (a - b) / BP i = if a % BP i < b % BP i then a / BP i - b / BP i - 1 else a / BP i - b / BP i := by
    have p1 := div_mod_split a (BP i)
    have p2 := div_mod_split b (BP i)
    have p3 : b / BP i ≤ a / BP i := Nat.div_le_div_right h
    generalize a / BP i = x at *
    generalize b / BP i = y at *
    generalize a % BP i = r at *
    generalize b % BP i = t at *
    generalize hP : BP i = P at *
    have hP0 : 0 < P := by rw [← hP]; exact BP_pos i
    obtain ⟨z, rfl⟩ := Nat.exists_eq_add_of_le p3
    rw [Nat.mul_add] at p1
    split
    · rename_i hc
      have hz : 0 < z := by
        rcases Nat.eq_zero_or_pos z with hz | hz
        · subst hz; rw [Nat.mul_zero] at p1; omega
        · exact hz
      obtain ⟨u, rfl⟩ : ∃ u, z = u + 1 := ⟨z - 1, by omega⟩
      rw [Nat.mul_add, Nat.mul_one] at p1
      have : a - b = P * u + (P + r - t) := by omega
      rw [this, add_mul_div_pos hP0, Nat.div_eq_of_lt (by omega)]; omega
    · have : a - b = P * z + (r - t) := by omega
      rw [this, add_mul_div_pos hP0, Nat.div_eq_of_lt (by omega)]; omega
  rw [e]
  have p3 : b / BP i ≤ a / BP i := Nat.div_le_div_right h
  have p4 : a % BP i < b % BP i → b / BP i < a / BP i := by
    intro hc
    have p1 := div_mod_split a (BP i)
    have p2 := div_mod_split b (BP i)
    rcases Nat.lt_or_ge (b / BP i) (a / BP i) with h | h
    · exact h
    · have : a / BP i = b / BP i := by omega
      rw [this] at p1; omega
  split
  · have := p4 (by assumption); omega
  · omega

/-! ### Products: x times b added to T. -/
def cMul (T x b k : Nat) : Nat := (T % BP k + x * (b % BP k)) / BP k
theorem cMul_zero (T x b : Nat) : cMul T x b 0 = 0 := by unfold cMul; rw [BP_zero, Nat.mod_one, Nat.mod_one]; simp
theorem cMul_lt {x : Nat} (T b k : Nat) (hx : x < 4294967296) : cMul T x b k < 4294967296 := by
  unfold cMul
  rw [Nat.div_lt_iff_lt_mul (BP_pos k)]
  have h1 := mod_BP_lt T k
  have h2 := mod_BP_lt b k
  have h3 : x * (b % BP k) ≤ 4294967295 * (b % BP k) := Nat.mul_le_mul_right _ (by omega)
  omega
theorem cMul_sum (T x b k : Nat) : (T % BP (k + 1) + x * (b % BP (k + 1))) / BP k = cMul T x b k + (x * (b / BP k % 4294967296) + T / BP k % 4294967296) := by
  unfold cMul
  rw [mod_BP_succ, mod_BP_succ]
  have e : BP k * (T / BP k % 4294967296) + T % BP k + x * (BP k * (b / BP k % 4294967296) + b % BP k) = BP k * (x * (b / BP k % 4294967296) + T / BP k % 4294967296) + (T % BP k + x * (b % BP k)) := by
    rw [Nat.mul_add, Nat.mul_add, Nat.mul_left_comm x]; omega
  rw [e, add_mul_div_pos (BP_pos k)]; omega
theorem cMul_step (T x b k : Nat) : cMul T x b (k + 1) = (cMul T x b k + (x * (b / BP k % 4294967296) + T / BP k % 4294967296)) / 4294967296 := by
  rw [← cMul_sum]
  unfold cMul
  rw [div_BP_succ]
theorem cMul_dig (T x b k : Nat) : (cMul T x b k + (x * (b / BP k % 4294967296) + T / BP k % 4294967296)) % 4294967296 = (T + x * b) / BP k % 4294967296 := by
  unfold cMul
  have h1 := div_mod_split T (BP k)
  have h2 := div_mod_split b (BP k)
  have e : T + x * b = BP k * (T / BP k + x * (b / BP k)) + (T % BP k + x * (b % BP k)) := by
    conv => lhs; rw [h1, h2]
    rw [Nat.mul_add, Nat.mul_add, Nat.mul_left_comm x]; omega
  have e2 : (T + x * b) / BP k = T / BP k + x * (b / BP k) + (T % BP k + x * (b % BP k)) / BP k := by
    conv => lhs; rw [e]
    rw [add_mul_div_pos (BP_pos k)]
  rw [e2]
  have e3 : x * (b / BP k % 4294967296) % 4294967296 = x * (b / BP k) % 4294967296 := by rw [Nat.mul_mod, Nat.mod_mod, ← Nat.mul_mod]
  omega
theorem cMul_end {T x b k : Nat} (hT : T < BP k) (hb : b < BP k) : cMul T x b k = (T + x * b) / BP k := by
  unfold cMul
  rw [Nat.mod_eq_of_lt hT, Nat.mod_eq_of_lt hb]

/-! ### Quotients by one word. -/
theorem short_step {d : Nat} (a i : Nat) (hd : 0 < d) : ((a / BP (i + 1) % d) * 4294967296 + a / BP i % 4294967296) / d % 4294967296 = a / d / BP i % 4294967296 ∧
    ((a / BP (i + 1) % d) * 4294967296 + a / BP i % 4294967296) % d = a / BP i % d ∧ ((a / BP (i + 1) % d) * 4294967296 + a / BP i % 4294967296) / d < 4294967296 := by
  rw [Nat.div_div_eq_div_mul a d, Nat.mul_comm d, ← Nat.div_div_eq_div_mul a _ d, div_BP_succ]
  generalize a / BP i = A
  have h1 := div_mod_split (A / 4294967296) d
  have h2 := Nat.mod_lt (A / 4294967296) hd
  have h3 : A = 4294967296 * (A / 4294967296) + A % 4294967296 := div_mod_split _ _
  generalize A / 4294967296 / d = q at *
  generalize A / 4294967296 % d = r at *
  have hlt : r * 4294967296 + A % 4294967296 < d * 4294967296 := by
    have : (r + 1) * 4294967296 ≤ d * 4294967296 := Nat.mul_le_mul_right _ h2
    omega
  have e : A = d * (4294967296 * q) + (r * 4294967296 + A % 4294967296) := by
    conv => lhs; rw [h3, h1]
    rw [Nat.mul_add, Nat.mul_left_comm]; omega
  have hq : (r * 4294967296 + A % 4294967296) / d < 4294967296 := by rw [Nat.div_lt_iff_lt_mul hd]; omega
  have e2 : A / d = 4294967296 * q + (r * 4294967296 + A % 4294967296) / d := by
    conv => lhs; rw [e]
    rw [add_mul_div_pos hd]
  refine ⟨by rw [e2]; omega, ?_, hq⟩
  conv => rhs; rw [e]
  rw [Nat.mul_add_mod]
end Lw

namespace Lw

/-- One guess at a digit of a quotient. -/
structure Guess where
  W : Nat
  V : Nat
  P : Nat
  top : Nat
  next : Nat
  v0 : Nat
  head : Nat
  w2 : Nat
  w0 : Nat
structure Guess.ok (p : Guess) : Prop where
  hV : p.V = (p.top * 4294967296 + p.next) * p.P + p.v0
  hv0 : p.v0 < p.P
  hW : p.W = (p.head * 4294967296 + p.w2) * p.P + p.w0
  hw0 : p.w0 < p.P
  htop : 2147483648 ≤ p.top
  htop' : p.top < 4294967296
  hnext : p.next < 4294967296
  hw2 : p.w2 < 4294967296
  hlt : p.W < 4294967296 * p.V
def Guess.g (p : Guess) (t : Nat) : Nat := p.head / p.top - t
def Guess.r (p : Guess) (t : Nat) : Nat := p.head % p.top + t * p.top
/-- Goes the search on? -/
def Guess.more (p : Guess) (t : Nat) : Prop := p.r t < 4294967296 ∧ (4294967296 ≤ p.g t ∨ p.r t * 4294967296 + p.w2 < p.g t * p.next)

theorem Guess.sum {p : Guess} {t : Nat} (ht : t ≤ p.head / p.top) : p.g t * p.top + p.r t = p.head := by
  unfold Guess.g Guess.r
  have h1 := Nat.div_add_mod p.head p.top
  obtain ⟨q, hq⟩ := Nat.exists_eq_add_of_le ht
  rw [hq, Nat.mul_add] at h1
  rw [hq, Nat.add_sub_cancel_left, Nat.mul_comm q, Nat.mul_comm t]
  omega
theorem Guess.over {p : Guess} (hp : p.ok) {G : Nat} (h : p.head * 4294967296 + p.w2 + 1 ≤ G * (p.top * 4294967296 + p.next)) : p.W < G * p.V := by
  have h1 := Nat.mul_le_mul_right p.P h
  have h2 : G * (p.top * 4294967296 + p.next) * p.P ≤ G * p.V := by
    rw [Nat.mul_assoc, hp.hV]; exact Nat.mul_le_mul_left _ (Nat.le_add_right _ _)
  have h3 := hp.hw0
  rw [hp.hW]
  rw [Nat.add_mul (p.head * 4294967296 + p.w2) 1, Nat.one_mul] at h1
  omega
theorem Guess.inv {p : Guess} (hp : p.ok) {T : Nat} (hT : ∀ t, t < T → p.more t) : ∀ t, t ≤ T → t ≤ p.head / p.top ∧ p.W < (p.g t + 1) * p.V
  | 0, _ => by
    refine ⟨Nat.zero_le _, Guess.over hp ?_⟩
    have h0 : 0 < p.top := by have := hp.htop; omega
    have h1 : p.head < (p.g 0 + 1) * p.top := by
      have h2 := Guess.sum (p := p) (t := 0) (Nat.zero_le _)
      have h3 : p.r 0 < p.top := by unfold Guess.r; rw [Nat.zero_mul, Nat.add_zero]; exact Nat.mod_lt _ h0
      rw [Nat.add_mul, Nat.one_mul]; omega
    have h2 := Nat.mul_le_mul_right 4294967296 h1
    have h3 := hp.hw2
    have h4 : (p.g 0 + 1) * (p.top * 4294967296 + p.next) = (p.g 0 + 1) * p.top * 4294967296 + (p.g 0 + 1) * p.next := by rw [Nat.mul_add, Nat.mul_assoc]
    rw [h4]
    have h5 : (p.head + 1) * 4294967296 = p.head * 4294967296 + 4294967296 := by rw [Nat.add_mul, Nat.one_mul]
    rw [Nat.succ_eq_add_one, h5] at h2
    omega
  | t + 1, ht => by
    obtain ⟨i1, i2⟩ := Guess.inv hp hT t (by omega)
    have hm := hT t (by omega)
    have hs := Guess.sum (p := p) i1
    have key : p.W < p.g t * p.V := by
      rcases hm.2 with h | h
      · exact Nat.lt_of_lt_of_le hp.hlt (Nat.mul_le_mul_right _ h)
      · refine Guess.over hp ?_
        rw [Nat.mul_add, ← Nat.mul_assoc]
        have h6 := congrArg (· * 4294967296) hs
        simp only [Nat.add_mul] at h6
        omega
    have hpos : 0 < p.g t := by
      rcases Nat.eq_zero_or_pos (p.g t) with h | h
      · rw [h, Nat.zero_mul] at key; omega
      · exact h
    have hg : p.g (t + 1) = p.g t - 1 := by unfold Guess.g; omega
    refine ⟨by unfold Guess.g at hpos; omega, ?_⟩
    rw [hg, show p.g t - 1 + 1 = p.g t by omega]; exact key
theorem Guess.stops {p : Guess} (hp : p.ok) : ∃ T, (∀ t, t < T → p.more t) ∧ ¬ p.more T := by
  have hb : ¬ p.more 2 := by
    intro h
    have h1 := h.1
    have h2 := hp.htop
    unfold Guess.r at h1
    omega
  by_cases h0 : p.more 0
  · by_cases h1 : p.more 1
    · exact ⟨2, fun t ht => by rcases (by omega : t = 0 ∨ t = 1) with rfl | rfl <;> assumption, hb⟩
    · exact ⟨1, fun t ht => by rw [show t = 0 by omega]; exact h0, h1⟩
  · exact ⟨0, fun t ht => absurd ht (by omega), h0⟩
/-- Where the search ends the guess is the digit, or one more. -/
theorem Guess.end {p : Guess} (hp : p.ok) {T : Nat} (hT : ∀ t, t < T → p.more t) (hn : ¬ p.more T) : p.g T < 4294967296 ∧ p.W < (p.g T + 1) * p.V ∧ (p.g T - 1) * p.V ≤ p.W := by
  obtain ⟨i1, i2⟩ := Guess.inv hp hT T (Nat.le_refl _)
  have hs := Guess.sum (p := p) i1
  have hP : 0 < p.P := by have := hp.hv0; omega
  have hlt : p.g T < 4294967296 := by
    rcases Nat.lt_or_ge (p.g T) 4294967296 with h | h
    · exact h
    · exfalso
      refine hn ⟨?_, .inl h⟩
      have h1 : 4294967296 * p.top ≤ p.g T * p.top := Nat.mul_le_mul_right _ h
      have h2 : (p.head * 4294967296 + p.w2) * p.P < (4294967296 * (p.top * 4294967296 + p.next + 1)) * p.P := by
        have h3 := hp.hlt
        have h4 := hp.hW
        have h5 := hp.hV
        have h6 := hp.hv0
        have h7 : 4294967296 * p.V ≤ (4294967296 * (p.top * 4294967296 + p.next + 1)) * p.P := by
          rw [Nat.mul_assoc]
          refine Nat.mul_le_mul_left _ ?_
          rw [Nat.add_mul _ 1, Nat.one_mul]; omega
        omega
      have h3 := Nat.lt_of_mul_lt_mul_right h2
      have h4 := hp.hnext
      omega
  refine ⟨hlt, i2, ?_⟩
  rcases Nat.eq_zero_or_pos (p.g T) with h0 | h0
  · rw [h0]; simp
  have hmono : (p.g T - 1) * p.V ≤ p.g T * p.V := Nat.mul_le_mul_right _ (Nat.sub_le _ _)
  by_cases hr : p.r T < 4294967296
  · have hnx : p.g T * p.next ≤ p.r T * 4294967296 + p.w2 := by
      rcases Nat.lt_or_ge (p.r T * 4294967296 + p.w2) (p.g T * p.next) with h | h
      · exact absurd ⟨hr, .inr h⟩ hn
      · exact h
    have h1 : p.g T * (p.top * 4294967296 + p.next) ≤ p.head * 4294967296 + p.w2 := by
      rw [Nat.mul_add, ← Nat.mul_assoc]
      have h6 := congrArg (· * 4294967296) hs
      simp only [Nat.add_mul] at h6
      omega
    have h2 := Nat.mul_le_mul_right p.P h1
    have h3 : (p.g T - 1) * p.V ≤ (p.g T - 1) * ((p.top * 4294967296 + p.next) * p.P) + (p.g T - 1) * p.P := by
      rw [← Nat.mul_add]
      refine Nat.mul_le_mul_left _ ?_
      have := hp.hV; have := hp.hv0; omega
    have h4 : (p.g T - 1) * p.P ≤ (p.top * 4294967296 + p.next) * p.P := by
      refine Nat.mul_le_mul_right _ ?_
      have := hp.htop; omega
    have h5 : (p.g T - 1) * ((p.top * 4294967296 + p.next) * p.P) + (p.top * 4294967296 + p.next) * p.P = p.g T * (p.top * 4294967296 + p.next) * p.P := by
      have : p.g T = (p.g T - 1) + 1 := by omega
      conv => rhs; rw [this]
      rw [Nat.mul_assoc]
      generalize (p.top * 4294967296 + p.next) * p.P = z
      rw [Nat.add_mul, Nat.one_mul]
    have := hp.hW
    omega
  · have h1 : p.V ≤ (p.top + 1) * 4294967296 * p.P := by
      have h2 : (p.top * 4294967296 + p.next + 1) * p.P ≤ ((p.top + 1) * 4294967296) * p.P := by
        refine Nat.mul_le_mul_right _ ?_
        have := hp.hnext; omega
      rw [Nat.add_mul _ 1, Nat.one_mul] at h2
      have := hp.hV; have := hp.hv0; omega
    have h2 : p.g T * p.V ≤ p.g T * ((p.top + 1) * 4294967296 * p.P) := Nat.mul_le_mul_left _ h1
    have h3 : p.g T * ((p.top + 1) * 4294967296 * p.P) = (p.g T * p.top + p.g T) * 4294967296 * p.P := by
      rw [← Nat.mul_assoc, ← Nat.mul_assoc, Nat.mul_add, Nat.mul_one]
    have h4 : (p.g T * p.top + p.g T) * 4294967296 * p.P ≤ p.head * 4294967296 * p.P := by
      refine Nat.mul_le_mul_right _ (Nat.mul_le_mul_right _ ?_)
      omega
    have h5 : p.head * 4294967296 * p.P ≤ (p.head * 4294967296 + p.w2) * p.P := Nat.mul_le_mul_right _ (Nat.le_add_right _ _)
    have := hp.hW
    omega
theorem Guess.digit {p : Guess} (hp : p.ok) {T : Nat} (hT : ∀ t, t < T → p.more t) (hn : ¬ p.more T) :
    (p.W < p.g T * p.V → p.W / p.V = p.g T - 1 ∧ 0 < p.g T) ∧ (¬ p.W < p.g T * p.V → p.W / p.V = p.g T) := by
  obtain ⟨h1, h2, h3⟩ := Guess.end hp hT hn
  refine ⟨fun h => ?_, fun h => ?_⟩
  · have hpos : 0 < p.g T := by
      rcases Nat.eq_zero_or_pos (p.g T) with h0 | h0
      · rw [h0, Nat.zero_mul] at h; omega
      · exact h0
    refine ⟨Nat.div_eq_of_lt_le ?_ ?_, hpos⟩
    · exact h3
    · rw [show p.g T - 1 + 1 = p.g T by omega]; exact h
  · exact Nat.div_eq_of_lt_le (by omega) h2

/-! ### Bits. -/
def bl (x : Nat) : Nat := if x = 0 then 0 else x.log2 + 1
theorem bl_lt (x : Nat) : x < 2 ^ bl x := by
  unfold bl
  split
  · rename_i h; subst h; decide
  · rename_i h; exact (Nat.log2_lt h).1 (Nat.lt_succ_self _)
theorem bl_le {x : Nat} (h : x ≠ 0) : 2 ^ (bl x - 1) ≤ x := by
  unfold bl
  rw [if_neg h, Nat.add_sub_cancel]
  exact (Nat.le_log2 h).1 (Nat.le_refl _)
theorem bl_pos {x : Nat} (h : x ≠ 0) : 0 < bl x := by unfold bl; rw [if_neg h]; omega
theorem bl_of {x k : Nat} (h1 : 2 ^ k ≤ x) (h2 : x < 2 ^ (k + 1)) : bl x = k + 1 := by
  have h0 : x ≠ 0 := by have := Nat.pow_pos (n := k) (show 0 < 2 by omega); omega
  unfold bl
  rw [if_neg h0]
  have := (Nat.le_log2 h0).2 h1
  have := (Nat.log2_lt h0).2 h2
  omega
theorem bl_shift {x k : Nat} (h : 2 ^ k ≤ x) : bl x = bl (x / 2 ^ k) + k := by
  have hp : 0 < 2 ^ k := Nat.pow_pos (by omega)
  have hq : x / 2 ^ k ≠ 0 := by
    have : 1 ≤ x / 2 ^ k := (Nat.le_div_iff_mul_le hp).2 (by omega)
    omega
  have h1 := bl_le hq
  have h2 := bl_lt (x / 2 ^ k)
  have h3 := bl_pos hq
  obtain ⟨m, hm⟩ : ∃ m, bl (x / 2 ^ k) = m + 1 := ⟨bl (x / 2 ^ k) - 1, by omega⟩
  rw [hm] at h1 h2 ⊢
  rw [Nat.add_sub_cancel, Nat.le_div_iff_mul_le hp, ← Nat.pow_add] at h1
  rw [Nat.div_lt_iff_lt_mul hp, ← Nat.pow_add] at h2
  rw [bl_of (k := m + k) h1 (by rw [show m + k + 1 = m + 1 + k by omega]; exact h2)]; omega

/-! ### A long division. -/
theorem mod_up (R i V : Nat) : R % (BP i * V) = BP i * (R / BP i % V) + R % BP i := by rw [Nat.mod_mul]; omega
theorem low_dig {i k : Nat} (h : k < i) (x y : Nat) : (BP i * x + y) / BP k % 4294967296 = y / BP k % 4294967296 := by
  have e : BP i * x = BP k * (4294967296 * (BP (i - k - 1) * x)) := by
    conv => lhs; rw [show i = (k + (i - k - 1)) + 1 by omega, BP_succ, BP_add]
    simp only [Nat.mul_assoc, Nat.mul_comm, Nat.mul_left_comm]
  rw [e, add_mul_div_pos (BP_pos k)]; omega
structure LongIn where
  a : Nat
  b : Nat
  n : Nat
  la : Nat
  lb : Nat
def LongIn.U (d : LongIn) : Nat := d.a * 2 ^ d.n
def LongIn.V (d : LongIn) : Nat := d.b * 2 ^ d.n
def LongIn.R (d : LongIn) (c : Nat) : Nat := d.U % (BP c * d.V)
def LongIn.W (d : LongIn) (i : Nat) : Nat := d.R (i + 1) / BP i
structure LongIn.ok (d : LongIn) : Prop where
  hn : d.n ≤ 31
  hlb : 2 ≤ d.lb
  hle : d.lb ≤ d.la
  ha : d.a < BP d.la
  hV : d.V < BP d.lb
  hV' : 2147483648 * BP (d.lb - 1) ≤ d.V
def LongIn.guess (d : LongIn) (i : Nat) : Guess where
  W := d.W i
  V := d.V
  P := BP (d.lb - 2)
  top := d.V / BP (d.lb - 1)
  next := d.V / BP (d.lb - 2) % 4294967296
  v0 := d.V % BP (d.lb - 2)
  head := d.W i / BP (d.lb - 1)
  w2 := d.W i / BP (d.lb - 2) % 4294967296
  w0 := d.W i % BP (d.lb - 2)
theorem LongIn.V_pos {d : LongIn} (hd : d.ok) : 0 < d.V := by have := hd.hV'; have := BP_pos (d.lb - 1); omega
theorem LongIn.R_lt {d : LongIn} (hd : d.ok) (c : Nat) : d.R c < BP c * d.V := Nat.mod_lt _ (Nat.mul_pos (BP_pos c) (LongIn.V_pos hd))
theorem LongIn.W_lt {d : LongIn} (hd : d.ok) (i : Nat) : d.W i < 4294967296 * d.V := by
  have h := LongIn.R_lt hd (i + 1)
  unfold LongIn.W
  rw [Nat.div_lt_iff_lt_mul (BP_pos i)]
  rw [BP_succ, Nat.mul_comm 4294967296, Nat.mul_assoc, Nat.mul_comm] at h
  exact h
theorem LongIn.W_fits {d : LongIn} (hd : d.ok) (i : Nat) : d.W i < BP (d.lb + 1) := by
  have := LongIn.W_lt hd i
  have h2 := hd.hV
  rw [BP_succ]; omega
theorem two_down (x lb : Nat) (h : 2 ≤ lb) : x / BP (lb - 1) = x / BP (lb - 2) / 4294967296 := by
  rw [← div_BP_succ, show lb - 2 + 1 = lb - 1 by omega]
theorem LongIn.guess_ok {d : LongIn} (hd : d.ok) (i : Nat) : (d.guess i).ok where
  hV := by
    show d.V = (d.V / BP (d.lb - 1) * 4294967296 + d.V / BP (d.lb - 2) % 4294967296) * BP (d.lb - 2) + d.V % BP (d.lb - 2)
    rw [two_down _ _ hd.hlb, Nat.mul_comm (d.V / BP (d.lb - 2) / 4294967296), Nat.div_add_mod, Nat.mul_comm, Nat.div_add_mod]
  hv0 := mod_BP_lt _ _
  hW := by
    show d.W i = (d.W i / BP (d.lb - 1) * 4294967296 + d.W i / BP (d.lb - 2) % 4294967296) * BP (d.lb - 2) + d.W i % BP (d.lb - 2)
    rw [two_down _ _ hd.hlb, Nat.mul_comm (d.W i / BP (d.lb - 2) / 4294967296), Nat.div_add_mod, Nat.mul_comm, Nat.div_add_mod]
  hw0 := mod_BP_lt _ _
  htop := (Nat.le_div_iff_mul_le (BP_pos _)).2 hd.hV'
  htop' := by
    show d.V / BP (d.lb - 1) < 4294967296
    have := hd.hV
    rw [Nat.div_lt_iff_lt_mul (BP_pos _), ← BP_succ, show d.lb - 1 + 1 = d.lb by have := hd.hlb; omega]; exact this
  hnext := Nat.mod_lt _ (by omega)
  hw2 := Nat.mod_lt _ (by omega)
  hlt := LongIn.W_lt hd i
theorem LongIn.head_eq {d : LongIn} (hd : d.ok) (i : Nat) : d.W i / BP (d.lb - 1) = d.W i / BP d.lb % 4294967296 * 4294967296 + d.W i / BP (d.lb - 1) % 4294967296 := by
  have h1 := LongIn.W_fits hd i
  have h2 : d.W i / BP d.lb < 4294967296 := by rw [Nat.div_lt_iff_lt_mul (BP_pos _), ← BP_succ]; exact h1
  have h3 : d.W i / BP d.lb = d.W i / BP (d.lb - 1) / 4294967296 := by rw [← div_BP_succ, show d.lb - 1 + 1 = d.lb by have := hd.hlb; omega]
  clear h1
  generalize d.W i / BP d.lb = x at *
  generalize d.W i / BP (d.lb - 1) = y at *
  omega
/-- The digit of a quotient, and what is left. -/
theorem LongIn.digit (d : LongIn) (i : Nat) : d.U / d.V / BP i % 4294967296 = d.W i / d.V % 4294967296 := by
  unfold LongIn.W LongIn.R
  rw [Nat.div_div_eq_div_mul, Nat.mul_comm d.V, BP_succ]
  have h := Nat.div_add_mod d.U (4294967296 * BP i * d.V)
  have e : 4294967296 * BP i * d.V = BP i * d.V * 4294967296 := by rw [Nat.mul_assoc, Nat.mul_comm]
  have h2 : d.U / (BP i * d.V) % 4294967296 = d.U % (BP i * d.V * 4294967296) / (BP i * d.V) % 4294967296 := by
    rw [Nat.mod_mul_right_div_self, Nat.mod_mod]
  rw [h2, e, ← Nat.div_div_eq_div_mul]
theorem LongIn.R_next (d : LongIn) (i : Nat) : d.R i = BP i * (d.W i % d.V) + d.R (i + 1) % BP i := by
  have h : d.R i = d.R (i + 1) % (BP i * d.V) := by
    unfold LongIn.R
    rw [Nat.mod_mod_of_dvd]
    rw [BP_succ, Nat.mul_assoc]; exact Nat.dvd_mul_left _ _
  rw [h, mod_up]; rfl
theorem LongIn.R_low (d : LongIn) {i k : Nat} (h : k < i) : d.R i / BP k % 4294967296 = d.R (i + 1) / BP k % 4294967296 := by
  rw [LongIn.R_next, low_dig h]
  conv => rhs; rw [← Nat.div_add_mod (d.R (i + 1)) (BP i)]
  rw [low_dig h]
theorem LongIn.R_mid (d : LongIn) {i r : Nat} : d.R i / BP (i + r) = d.W i % d.V / BP r := by
  rw [LongIn.R_next, BP_add, ← Nat.div_div_eq_div_mul, add_mul_div_pos (BP_pos i), Nat.div_eq_of_lt (mod_BP_lt _ _), Nat.add_zero]
theorem LongIn.R_mid' (d : LongIn) {i r : Nat} : d.R (i + 1) / BP (i + r) = d.W i / BP r := by
  unfold LongIn.W; rw [BP_add, Nat.div_div_eq_div_mul]
theorem LongIn.R_high {d : LongIn} (hd : d.ok) {i k : Nat} (h : i + d.lb + 1 ≤ k) : d.R i / BP k = 0 ∧ d.R (i + 1) / BP k = 0 := by
  have h1 := LongIn.R_lt hd i
  have h2 := LongIn.R_lt hd (i + 1)
  have h3 := hd.hV
  have h4 : BP (i + 1 + d.lb) ≤ BP k := BP_mono (by omega)
  have h5 : BP (i + d.lb) ≤ BP k := BP_mono (by omega)
  rw [BP_add] at h4 h5
  have h6 : BP i * d.V ≤ BP i * BP d.lb := Nat.mul_le_mul_left _ (Nat.le_of_lt h3)
  have h7 : BP (i + 1) * d.V ≤ BP (i + 1) * BP d.lb := Nat.mul_le_mul_left _ (Nat.le_of_lt h3)
  exact ⟨Nat.div_eq_of_lt (by omega), Nat.div_eq_of_lt (by omega)⟩
theorem LongIn.start {d : LongIn} (hd : d.ok) : d.U < BP (d.la + 1 - d.lb) * d.V ∧ d.U < BP (d.la + 1) := by
  have h1 := hd.ha
  have h2 : 2 ^ d.n ≤ 2147483648 := by
    have := Nat.pow_le_pow_right (n := 2) (by omega) hd.hn
    simpa using this
  have h3 : d.U < BP d.la * 2147483648 := by
    unfold LongIn.U
    calc d.a * 2 ^ d.n ≤ d.a * 2147483648 := Nat.mul_le_mul_left _ h2
      _ < BP d.la * 2147483648 := by omega
  have h4 : BP (d.la + 1 - d.lb) * (2147483648 * BP (d.lb - 1)) ≤ BP (d.la + 1 - d.lb) * d.V := Nat.mul_le_mul_left _ hd.hV'
  have h5 : BP (d.la + 1 - d.lb) * (2147483648 * BP (d.lb - 1)) = BP d.la * 2147483648 := by
    rw [Nat.mul_left_comm, ← BP_add, Nat.mul_comm, show d.la + 1 - d.lb + (d.lb - 1) = d.la by have := hd.hlb; have := hd.hle; omega]
  refine ⟨by omega, ?_⟩
  rw [BP_succ]; omega
theorem LongIn.R_zero {d : LongIn} : d.R 0 / 2 ^ d.n = d.a % d.b := by
  unfold LongIn.R LongIn.U LongIn.V
  rw [BP_zero, Nat.one_mul, Nat.mul_mod_mul_right, Nat.mul_div_cancel _ (Nat.pow_pos (by omega))]
theorem LongIn.quot {d : LongIn} : d.U / d.V = d.a / d.b := by
  unfold LongIn.U LongIn.V
  rw [Nat.mul_div_mul_right _ _ (Nat.pow_pos (by omega))]
/-- Shifted so that the divisor's highest bit is set. -/
theorem LongIn.normal {a b : Nat} (hb : 2 ≤ (words b).length) (hab : b ≤ a) :
    LongIn.ok ⟨a, b, 32 - bl ((words b).getD ((words b).length - 1) 0), (words a).length, (words b).length⟩ := by
  have hb0 : b ≠ 0 := by rintro rfl; simp [words_zero] at hb
  have hlast := words_last hb0
  generalize hx : (words b).getD ((words b).length - 1) 0 = x at hlast ⊢
  have hxe : x = b / BP ((words b).length - 1) % 4294967296 := by rw [← hx, getD_val (dig_words b), val_words]
  have hlt := (len_le_iff b (words b).length).1 (Nat.le_refl _)
  have hdiv : b / BP ((words b).length - 1) < 4294967296 := by
    rw [Nat.div_lt_iff_lt_mul (BP_pos _), ← BP_succ, show (words b).length - 1 + 1 = (words b).length by omega]; exact hlt
  rw [Nat.mod_eq_of_lt hdiv] at hxe
  have h1 := bl_lt x
  have h2 := bl_le hlast
  have h3 := bl_pos hlast
  have h4 : bl x ≤ 32 := by
    rcases Nat.lt_or_ge 32 (bl x) with h | h
    · have : 2 ^ 32 ≤ 2 ^ (bl x - 1) := Nat.pow_le_pow_right (by omega) (by omega)
      have : (2:Nat) ^ 32 = 4294967296 := by decide
      omega
    · exact h
  have hp : 0 < 2 ^ (32 - bl x) := Nat.pow_pos (by omega)
  refine ⟨by show 32 - bl x ≤ 31; omega, hb, ?_, (len_le_iff a _).1 (Nat.le_refl _), ?_, ?_⟩
  · exact (len_le_iff b _).2 (Nat.lt_of_le_of_lt hab ((len_le_iff a _).1 (Nat.le_refl _)))
  · show b * 2 ^ (32 - bl x) < BP (words b).length
    have e : BP (words b).length = 4294967296 * BP ((words b).length - 1) := by rw [← BP_succ, show (words b).length - 1 + 1 = (words b).length by omega]
    have h5 : b < 2 ^ bl x * BP ((words b).length - 1) := by
      rw [← Nat.div_lt_iff_lt_mul (BP_pos _), ← hxe]; exact h1
    have h6 := Nat.mul_lt_mul_of_pos_right h5 hp
    rw [e]
    have h7 : 2 ^ bl x * BP ((words b).length - 1) * 2 ^ (32 - bl x) = 4294967296 * BP ((words b).length - 1) := by
      rw [Nat.mul_right_comm, ← Nat.pow_add, show bl x + (32 - bl x) = 32 by omega]
    omega
  · show 2147483648 * BP ((words b).length - 1) ≤ b * 2 ^ (32 - bl x)
    have h5 : 2 ^ (bl x - 1) * BP ((words b).length - 1) ≤ b := by
      rw [← Nat.le_div_iff_mul_le (BP_pos _), ← hxe]; exact h2
    have h6 := Nat.mul_le_mul_right (2 ^ (32 - bl x)) h5
    have h7 : 2 ^ (bl x - 1) * BP ((words b).length - 1) * 2 ^ (32 - bl x) = 2147483648 * BP ((words b).length - 1) := by
      rw [Nat.mul_right_comm, ← Nat.pow_add, show bl x - 1 + (32 - bl x) = 31 by omega]
    omega
end Lw

namespace Lw
open Go Go.RowKit Go.Proofs

variable {G : World → Prop}

def u32 (n : Nat) : D := .lit (.int .u32 (Int.ofNat n))
def u64 (n : Nat) : D := .lit (.int .u64 (Int.ofNat n))
def int (n : Int) : D := .lit (.int .i64 n)
def nat (n : Nat) : D := .lit (.int .i64 (Int.ofNat n))
def bool (b : Bool) : D := .lit (.bool b)
def rowW (l : List Nat) : D := .row l.length false (l.map u32)

theorem headD_u32 {l : List Nat} {i : Nat} (h : i < l.length) : ((l.map u32).drop (i * 1)).headD .any = u32 (l.getD i 0) := by
  rw [Nat.mul_one, List.headD_eq_head?_getD, List.head?_drop, List.getElem?_map, List.getElem?_eq_getElem h, List.getD_eq_getElem?_getD, List.getElem?_eq_getElem h]
  rfl
theorem eq64 {x y : Int} (h : x = y) : D.lit (.int .u64 x) = D.lit (.int .u64 y) := by rw [h]
theorem eq32 {x y : Int} (h : x = y) : D.lit (.int .u32 x) = D.lit (.int .u32 y) := by rw [h]
theorem eqS {x y : Int} (h : x = y) : D.lit (.int .i64 x) = D.lit (.int .i64 y) := by rw [h]
/-- What is owed at a word's place. -/
theorem at_need {l : List Nat} {i : Nat} (h : i < l.length) : ((0:Int) ≤ Int.ofNat i ∧ Int.ofNat i < (l.length : Int)) ∧ (Int.ofNat i).toNat * 1 < (l.map u32).length := by
  simp only [List.length_map, Int.ofNat_eq_natCast, Int.toNat_natCast]; omega
theorem load_need {l : List Nat} {i : Nat} (h : i < l.length) : 0 < 1 ∧ 1 ≤ ((l.map u32).drop ((Int.ofNat i).toNat * 1)).length := by
  simp only [List.length_drop, List.length_map, Int.ofNat_eq_natCast, Int.toNat_natCast]; omega
theorem headD_need {l : List Nat} {i : Nat} (h : i < l.length) : ((l.map u32).drop ((Int.ofNat i).toNat * 1)).headD .any = u32 (l.getD i 0) := headD_u32 h

theorem word_out (hG : Steady G) (l : List Nat) (i : Nat) (h : l.length ≤ i) : Spec Tryz.prog G 183 [rowW l, nat i] (u64 0) :=
  Spec.of_run hG Tryz.func183 (ro := []) (m := 30)
    [.eq 8 (eqB (x := decide (Int.ofNat i < Int.ofNat l.length)) (y := false) (by simp; omega))] (by kernel_rfl)
theorem word_in (hG : Steady G) (l : List Nat) (hl : Dig l) (i : Nat) (h : i < l.length) : Spec Tryz.prog G 183 [rowW l, nat i] (u64 (l.getD i 0)) :=
  Spec.of_run hG Tryz.func183 (ro := []) (m := 30)
    [.eq 8 (eqB (x := decide (Int.ofNat i < Int.ofNat l.length)) (y := true) (by simp; omega)), .prop (at_need h), .prop (load_need h), .eq 12 (headD_need h),
     .eq 13 (eq64 (x := IntKind.wrap .u64 (Int.ofNat (l.getD i 0))) (y := Int.ofNat (l.getD i 0)) (wrap64 (by have := hl.getD i; omega)))] (by kernel_rfl)
/-- A word, 0 behind the end. -/
theorem word_spec (hG : Steady G) (l : List Nat) (hl : Dig l) (i : Nat) : Spec Tryz.prog G 183 [rowW l, nat i] (u64 (l.getD i 0)) := by
  rcases Nat.lt_or_ge i l.length with h | h
  · exact word_in hG l hl i h
  · have := word_out hG l i h
    rwa [show l.getD i 0 = 0 by simp [List.getD_eq_getElem?_getD, List.getElem?_eq_none h]]

/-! ### trim -/
def trimInv (l : List Nat) (i : Nat) : St := lay 25 [(0, rowW l), (3, nat (l.length - i))] []
theorem trim_round (hG : Steady G) {l : List Nat} {i : Nat} (hi : i < l.length - (words (val l)).length) (hd : Dig l) (hb : l.length < 2 ^ 60) :
    Goes Tryz.prog G 0 (loopOf Tryz.f182 0) (trimInv l i) .normal (trimInv l (i + 1)) := by
  have hz : l.getD (l.length - (i + 1)) 0 = 0 := (words_val hd).2.2.1 _ (by omega)
  have hlt : l.length - (i + 1) < l.length := by omega
  exact Goes.of_run hG (ro := []) (m := 30) (lay_len ..)
    [.eq 7 (eqB (x := decide (Int.ofNat (l.length - i) > 0)) (y := true) (by simp; omega)),
     .eq 11 (eqS (x := IntKind.wrap .i64 (Int.ofNat (l.length - i) - 1)) (y := Int.ofNat (l.length - (i + 1))) (by rw [wrapS (by simp; omega) (by simp; omega)]; simp; omega)),
     .prop (at_need hlt), .prop (load_need hlt), .eq 13 (headD_need hlt), .eq 14 (eqB (x := Int.ofNat (l.getD (l.length - (i + 1)) 0) == 0) (y := true) (by rw [hz]; rfl)),
     .eq 17 (eqS (x := IntKind.wrap .i64 (Int.ofNat (l.length - i) - 1)) (y := Int.ofNat (l.length - (i + 1))) (by rw [wrapS (by simp; omega) (by simp; omega)]; simp; omega))] (by kernel_rfl)
theorem trim_last (hG : Steady G) {l : List Nat} (hd : Dig l) (hb : l.length < 2 ^ 60) :
    Goes Tryz.prog G 0 (loopOf Tryz.f182 0) (trimInv l (l.length - (words (val l)).length)) (.exit 0) (trimInv l (l.length - (words (val l)).length)) := by
  obtain ⟨h1, -, h3, h4⟩ := words_val hd
  rcases Nat.eq_zero_or_pos (words (val l)).length with hz | hp
  · exact Goes.of_run hG (ro := []) (m := 30) (lay_len ..)
      [.eq 7 (eqB (x := decide (Int.ofNat (l.length - (l.length - (words (val l)).length)) > 0)) (y := false) (by simp; omega))] (by kernel_rfl)
  · have hlt : (words (val l)).length - 1 < l.length := by omega
    exact Goes.of_run hG (ro := []) (m := 30) (lay_len ..)
      [.eq 7 (eqB (x := decide (Int.ofNat (l.length - (l.length - (words (val l)).length)) > 0)) (y := true) (by simp; omega)),
       .eq 11 (eqS (x := IntKind.wrap .i64 (Int.ofNat (l.length - (l.length - (words (val l)).length)) - 1)) (y := Int.ofNat ((words (val l)).length - 1)) (by rw [wrapS (by simp; omega) (by simp; omega)]; simp; omega)),
       .prop (at_need hlt), .prop (load_need hlt), .eq 13 (headD_need hlt), .eq 14 (eqB (x := Int.ofNat (l.getD ((words (val l)).length - 1) 0) == 0) (y := false) (by rw [beq_eq_false_iff_ne]; have := h4 hp; simp only [Int.ofNat_eq_natCast]; omega))] (by kernel_rfl)
theorem trim_loop (hG : Steady G) {l : List Nat} (hd : Dig l) (hb : l.length < 2 ^ 60) :
    Abs Tryz.prog G 25 0 (.loop (loopOf Tryz.f182 0)) (trimInv l 0) (.exit 0) (trimInv l (l.length - (words (val l)).length)) :=
  Abs.count (trimInv l) _ (fun i => lay_len _ _ _) (by simp) (fun i hi => trim_round hG hi hd hb) (trim_last hG hd hb)
theorem row_eq {l m : List Nat} (h : l = m) : rowW l = rowW m := by rw [h]
theorem trim_spec (hG : Steady G) {l : List Nat} (hd : Dig l) (hb : l.length ≤ 2 ^ 40) : Spec Tryz.prog G 182 [rowW l] (rowW (words (val l))) := by
  have hb' : l.length < 2 ^ 60 := by omega
  obtain ⟨h1, h2, -, -⟩ := words_val hd
  have hk : l.length - (l.length - (words (val l)).length) = (words (val l)).length := by omega
  by_cases hz : words (val l) = []
  · have hz' : (words (val l)).length = 0 := by rw [hz]; rfl
    have := Spec.of_run hG Tryz.func182 (ro := []) (m := 30) (args := [rowW l]) (r := rowW [])
      [.code (trim_loop hG hd hb'), .eq 19 (eqB (x := Int.ofNat (l.length - (l.length - (words (val l)).length)) == 0) (y := true) (by rw [hk, hz']; rfl))] (by kernel_rfl)
    rw [hz]; exact this
  · have hz' : 0 < (words (val l)).length := by cases hq : words (val l) with | nil => exact absurd hq hz | cons a b => simp
    refine Spec.of_run hG Tryz.func182 (ro := [24]) (m := 30) (args := [rowW l]) (r := rowW (words (val l)))
      [.code (trim_loop hG hd hb'), .eq 19 (eqB (x := Int.ofNat (l.length - (l.length - (words (val l)).length)) == 0) (y := false) (by rw [hk]; simp; omega)),
       .eq 22 (d := nat (l.length - (l.length - (words (val l)).length))) (d' := nat (words (val l)).length) (by rw [hk]),
       .prop (p := (0:Int) ≤ 0 ∧ 0 ≤ Int.ofNat (words (val l)).length ∧ Int.ofNat (words (val l)).length ≤ Int.ofNat l.length) (by simp; omega),
       .eq 23 (d := .row ((Int.ofNat (words (val l)).length).toNat - (0:Int).toNat) (false && false) (((l.map u32).drop ((0:Int).toNat * 1)).take (((Int.ofNat (words (val l)).length).toNat - (0:Int).toNat) * 1))) (d' := rowW (words (val l))) ?_,
       .prop (p := ([] : List D).length = 0 * 1 ∧ ((words (val l)).map u32).length = (words (val l)).length * 1 ∧ 0 + (words (val l)).length ≤ 2 ^ 62 ∧ (0 + (words (val l)).length) * 4 ≤ 2 ^ 47) (by simp; omega),
       .eq 24 (d := .row (0 + (words (val l)).length) false ([] ++ (words (val l)).map u32)) (d' := rowW (words (val l))) (by simp [rowW])] (by kernel_rfl)
    simp only [Int.ofNat_eq_natCast, Int.toNat_natCast, Int.toNat_zero, Nat.mul_one, Nat.sub_zero, List.drop_zero, Bool.false_and]
    rw [← List.map_take, ← h2]; rfl
end Lw

namespace Lw
open Go Go.RowKit Go.Proofs

variable {G : World → Prop}

/-! ### Rows of cells that are filled. -/
def cel (N : Nat) (f : Nat → Nat) : List D := (List.range N).map fun j => u32 (f j)
theorem cel_len (N : Nat) (f : Nat → Nat) : (cel N f).length = N := by simp [cel]
theorem cel_congr {N : Nat} {f g : Nat → Nat} (h : ∀ j, j < N → f j = g j) : cel N f = cel N g := List.map_congr_left fun j hj => by rw [h j (by simpa using hj)]
theorem cel_zero (N : Nat) : List.replicate N (u32 0) = cel N (fun _ => 0) := by
  apply List.ext_getElem
  · simp [cel]
  · intro i h1 h2; simp [cel]
theorem splice_cel {N i : Nat} (f : Nat → Nat) (v : Nat) (h : i < N) : splice (cel N f) i [u32 v] = cel N (fun j => if j = i then v else f j) := by
  apply List.ext_getElem?
  intro k
  simp only [splice, cel, List.length_singleton]
  by_cases h1 : k < i
  · rw [List.getElem?_append_left (by simp; omega), List.getElem?_take, if_pos h1]
    have : k < N := by omega
    simp [this, Nat.ne_of_lt h1]
  · by_cases h2 : k = i
    · subst h2
      rw [List.getElem?_append_right (by simp; omega)]
      simp [h, Nat.min_eq_left (Nat.le_of_lt h)]
    · rw [List.getElem?_append_right (by simp; omega)]
      have e : k - ((List.map (fun j => u32 (f j)) (List.range N)).take i).length = (k - i - 1) + 1 := by simp; omega
      rw [e, List.singleton_append, List.getElem?_cons_succ, List.getElem?_drop]
      have e2 : i + 1 + (k - i - 1) = k := by omega
      rw [e2]
      by_cases h3 : k < N
      · simp [h3, h2]
      · simp [h3]
theorem cel_digs (N s : Nat) : cel N (fun j => s / BP j % 4294967296) = (digs N s).map u32 := by simp [cel, digs]
theorem cel_getD {N : Nat} {f : Nat → Nat} {i : Nat} (h : i < N) : ((cel N f).drop i).headD .any = u32 (f i) := by
  rw [List.headD_eq_head?_getD, List.head?_drop]; simp [cel, h]
theorem cel_row (N s : Nat) : D.row N false (((cel N (fun j => s / BP j % 4294967296)).drop 0).take N) = rowW (digs N s) := by
  rw [cel_digs, List.drop_zero, List.take_of_length_le (by simp [digs_len])]
  unfold rowW; rw [digs_len]
theorem words_digs {N s : Nat} (h : s < BP N) : words (val (digs N s)) = words s := by rw [val_digs h]
theorem fdiv_pow (s k : Nat) : (Int.ofNat s).fdiv (2 ^ k) = Int.ofNat (s / 2 ^ k) := by
  have e : (2:Int) ^ k = Int.ofNat (2 ^ k) := by simp
  rw [e]; exact (Int.ofNat_fdiv s (2 ^ k)).symm
theorem shr32 (s : Nat) : (Int.ofNat s).fdiv (2 ^ min (Int.toNat 32) (IntKind.bits .u64)) = Int.ofNat (s / 4294967296) := by
  rw [show min (Int.toNat 32) (IntKind.bits .u64) = 32 by decide, fdiv_pow]
theorem shr63 (s : Nat) : (Int.ofNat s).fdiv (2 ^ min (Int.toNat 63) (IntKind.bits .u64)) = Int.ofNat (s / 9223372036854775808) := by
  rw [show min (Int.toNat 63) (IntKind.bits .u64) = 63 by decide, fdiv_pow]
theorem nat_succ {i : Nat} (h : i < 2 ^ 60) : IntKind.wrap .i64 (Int.ofNat i + 1) = Int.ofNat (i + 1) := by
  have h60 : (2:Nat) ^ 60 = 1152921504606846976 := by decide
  rw [wrapS (by simp; omega) (by simp; omega)]; simp
theorem nat_pred {i : Nat} (h : i < 2 ^ 60) (h0 : 0 < i) : IntKind.wrap .i64 (Int.ofNat i - 1) = Int.ofNat (i - 1) := by
  have h60 : (2:Nat) ^ 60 = 1152921504606846976 := by decide
  rw [wrapS (by simp; omega) (by simp; omega)]; simp; omega
theorem lt_true {i N : Nat} (h : i < N) : decide (Int.ofNat i < Int.ofNat N) = true := by simpa using h
theorem lt_false {i N : Nat} (h : N ≤ i) : decide (Int.ofNat i < Int.ofNat N) = false := by simpa using h
theorem ptr_at (b i : Nat) : D.ptr b (0 + (Int.ofNat i).toNat * 1) = .ptr b i := by simp
theorem ix_need {i N : Nat} (h : i < N) : (0:Int) ≤ Int.ofNat i ∧ Int.ofNat i < (N : Int) := by simp; omega
theorem make_need {N : Nat} (h : N ≤ 2 ^ 40) : Int.ofNat N = Int.ofNat N ∧ 0 ≤ Int.ofNat N ∧ Int.ofNat N * 4 ≤ 2 ^ 47 ∧ Int.ofNat N ≤ 2 ^ 62 := by
  have h40 : (2:Nat) ^ 40 = 1099511627776 := by decide
  have h47 : (2:Int) ^ 47 = 140737488355328 := by decide
  have h62 : (2:Int) ^ 62 = 4611686018427387904 := by decide
  rw [h47, h62]; simp; omega

/-! ### plus -/
def plusF (a b i j : Nat) : Nat := if j < i then (a + b) / BP j % 4294967296 else 0
def plusN (l m : List Nat) : Nat := max l.length m.length + 1
def plusInv (l m : List Nat) (i : Nat) : St :=
  lay 39 [(0, rowW l), (1, rowW m), (5, .slc 0 0 (plusN l m) (plusN l m)), (6, u64 (cAdd (val l) (val m) i)), (16, nat (plusN l m)), (17, nat i)] [(0, cel (plusN l m) (plusF (val l) (val m) i))]
theorem plus_round (hG : Steady G) {l m : List Nat} (hl : Dig l) (hm : Dig m) {i : Nat} (hi : i < plusN l m) (hb : plusN l m < 2 ^ 60) :
    Goes Tryz.prog G 0 (loopOf Tryz.f126 0) (plusInv l m i) .normal (plusInv l m (i + 1)) := by
  have hs := cAdd_step (val l) (val m) i
  have hd := cAdd_dig (val l) (val m) i
  rw [← getD_val hl, ← getD_val hm] at hs hd
  have h1 := hl.getD i
  have h2 := hm.getD i
  have h3 := cAdd_le (val l) (val m) i
  have e : plusInv l m (i + 1) = lay 39 [(0, rowW l), (1, rowW m), (5, .slc 0 0 (plusN l m) (plusN l m)), (6, u64 (cAdd (val l) (val m) (i + 1))), (16, nat (plusN l m)), (17, nat (i + 1))]
      [(0, splice (cel (plusN l m) (plusF (val l) (val m) i)) i [u32 ((val l + val m) / BP i % 4294967296)])] := by
    rw [splice_cel _ _ hi]
    unfold plusInv
    congr 3
    refine cel_congr fun j hj => ?_
    unfold plusF
    by_cases hji : j = i
    · subst hji; simp
    · rw [if_neg hji]; by_cases h : j < i
      · rw [if_pos h, if_pos (by omega)]
      · rw [if_neg h, if_neg (by omega)]
  rw [e]
  exact Goes.of_run hG (ro := []) (m := 30) (lay_len ..)
    [.eq 18 (eqB (lt_true hi)), .call (word_spec hG l hl i), .call (word_spec hG m hm i),
     .eq 27 (eq64 (x := IntKind.wrap .u64 (Int.ofNat (l.getD i 0) + Int.ofNat (m.getD i 0))) (y := Int.ofNat (l.getD i 0 + m.getD i 0)) (wrap64 (n := l.getD i 0 + m.getD i 0) (by omega))),
     .eq 28 (eq64 (x := IntKind.wrap .u64 (Int.ofNat (cAdd (val l) (val m) i) + Int.ofNat (l.getD i 0 + m.getD i 0))) (y := Int.ofNat (cAdd (val l) (val m) i + (l.getD i 0 + m.getD i 0))) (wrap64 (n := cAdd (val l) (val m) i + (l.getD i 0 + m.getD i 0)) (by omega))),
     .eq 32 (eq32 (x := IntKind.wrap .u32 (Int.ofNat (cAdd (val l) (val m) i + (l.getD i 0 + m.getD i 0)))) (y := Int.ofNat ((val l + val m) / BP i % 4294967296)) (by rw [← hd]; exact wrap32)),
     .prop (ix_need hi), .eq 33 (ptr_at 0 i), .prop (p := i + 1 ≤ (cel (plusN l m) (plusF (val l) (val m) i)).length) (by rw [cel_len]; omega),
     .eq 35 (eq64 (x := (Int.ofNat (cAdd (val l) (val m) i + (l.getD i 0 + m.getD i 0))).fdiv (2 ^ min (Int.toNat 32) (IntKind.bits .u64))) (y := Int.ofNat (cAdd (val l) (val m) (i + 1))) (by rw [shr32, ← hs])),
     .eq 36 (eqS (nat_succ (i := i) (by omega)))] (by kernel_rfl)
theorem plus_last (hG : Steady G) {l m : List Nat} : Goes Tryz.prog G 0 (loopOf Tryz.f126 0) (plusInv l m (plusN l m)) (.exit 0) (plusInv l m (plusN l m)) :=
  Goes.of_run hG (ro := []) (m := 30) (lay_len ..) [.eq 18 (eqB (lt_false (Nat.le_refl (plusN l m))))] (by kernel_rfl)
theorem plus_loop (hG : Steady G) {l m : List Nat} (hl : Dig l) (hm : Dig m) (hb : plusN l m < 2 ^ 60) :
    Abs Tryz.prog G 39 0 (.loop (loopOf Tryz.f126 0)) (lay 39 [(0, rowW l), (1, rowW m), (5, .slc 0 0 (plusN l m) (plusN l m)), (6, u64 0), (16, nat (plusN l m)), (17, nat 0)] [(0, List.replicate (plusN l m) (u32 0))]) (.exit 0)
      (plusInv l m (plusN l m)) := by
  have h := Abs.count (plusInv l m) (plusN l m) (fun i => lay_len _ _ _) (by simp) (fun i hi => plus_round hG hl hm hi hb) (plus_last hG)
  have e : plusInv l m 0 = lay 39 [(0, rowW l), (1, rowW m), (5, .slc 0 0 (plusN l m) (plusN l m)), (6, u64 0), (16, nat (plusN l m)), (17, nat 0)] [(0, List.replicate (plusN l m) (u32 0))] := by
    rw [cel_zero]; unfold plusInv; rw [cAdd_zero]; congr 3
  rw [e] at h; exact h
theorem max_len (l m : List Nat) : (if Int.ofNat m.length > Int.ofNat l.length then Int.ofNat m.length else Int.ofNat l.length) = Int.ofNat (max l.length m.length) := by
  split
  · rename_i h; simp at h; rw [Nat.max_eq_right (by omega)]
  · rename_i h; simp at h; rw [Nat.max_eq_left (by omega)]
theorem plus_fits {l m : List Nat} (hl : Dig l) (hm : Dig m) : val l + val m < BP (plusN l m) := by
  have h1 := val_lt hl
  have h2 := val_lt hm
  have h3 : BP l.length ≤ BP (max l.length m.length) := BP_mono (Nat.le_max_left _ _)
  have h4 : BP m.length ≤ BP (max l.length m.length) := BP_mono (Nat.le_max_right _ _)
  unfold plusN
  rw [BP_succ]; omega
/-- A sum of words. -/
theorem plus_spec (hG : Steady G) {l m : List Nat} (hl : Dig l) (hm : Dig m) (h1 : l.length ≤ 2 ^ 36) (h2 : m.length ≤ 2 ^ 36) :
    Spec Tryz.prog G 126 [rowW l, rowW m] (rowW (words (val l + val m))) := by
  have h36 : (2:Nat) ^ 36 = 68719476736 := by decide
  have h40 : (2:Nat) ^ 40 = 1099511627776 := by decide
  have hN : plusN l m ≤ 2 ^ 40 := by unfold plusN; omega
  have hfit := plus_fits hl hm
  have ht := trim_spec (G := G) hG (l := digs (plusN l m) (val l + val m)) (digs_dig _ _) (by rw [digs_len]; exact hN)
  rw [words_digs hfit] at ht
  refine Spec.of_run hG Tryz.func126 (ro := []) (m := 30) (args := [rowW l, rowW m])
    [.eq 12 (eqS (max_len l m)), .eq 13 (eqS (nat_succ (i := max l.length m.length) (by omega))), .prop (make_need hN), .code (plus_loop hG hl hm (by omega)), .freeze 0,
     .eq 37 (d := D.row (plusN l m) false (((cel (plusN l m) (plusF (val l) (val m) (plusN l m))).drop 0).take (plusN l m))) (d' := rowW (digs (plusN l m) (val l + val m))) ?_, .call ht] (by kernel_rfl)
  rw [← cel_row]
  congr 3
  exact cel_congr fun j hj => by unfold plusF; rw [if_pos hj]
end Lw

namespace Lw
open Go Go.RowKit Go.Proofs

variable {G : World → Prop}

/-! ### less -/
def subw (x y : Nat) : Nat := (x + 18446744073709551616 - y) % 18446744073709551616
theorem wrap_sub {x y : Nat} (h : y ≤ 18446744073709551616) : IntKind.wrap .u64 (Int.ofNat x - Int.ofNat y) = Int.ofNat (subw x y) := by
  rw [wrap64i]; unfold subw; simp only [Int.ofNat_eq_natCast]; omega
theorem subw_hi {x y c : Nat} (hx : x < 4294967296) (hy : y < 4294967296) (hc : c ≤ 1) : subw (subw x y) c / 9223372036854775808 = if x < y + c then 1 else 0 := by
  unfold subw; split <;> omega
theorem subw_lo {x y c : Nat} (hx : x < 4294967296) (hy : y < 4294967296) (hc : c ≤ 1) : ((subw (subw x y) c % 4294967296 : Nat) : Int) = ((x : Int) - y - c) % 4294967296 := by
  unfold subw; omega
def lessF (a b i j : Nat) : Nat := if j < i then (a - b) / BP j % 4294967296 else 0
theorem fillF {N i : Nat} (hi : i < N) (g : Nat → Nat) : splice (cel N (fun j => if j < i then g j else 0)) i [u32 (g i)] = cel N (fun j => if j < i + 1 then g j else 0) := by
  rw [splice_cel _ _ hi]
  refine cel_congr fun j _ => ?_
  by_cases hji : j = i
  · subst hji; simp
  · rw [if_neg hji]; by_cases h : j < i
    · rw [if_pos h, if_pos (by omega)]
    · rw [if_neg h, if_neg (by omega)]
def lessInv (l m : List Nat) (i : Nat) : St :=
  lay 38 [(0, rowW l), (1, rowW m), (5, .slc 0 0 l.length l.length), (6, u64 (cSub (val l) (val m) i)), (13, nat l.length), (14, nat i)] [(0, cel l.length (lessF (val l) (val m) i))]
theorem load64 {l : List Nat} (hl : Dig l) (i : Nat) : IntKind.wrap .u64 (Int.ofNat (l.getD i 0)) = Int.ofNat (l.getD i 0) := wrap64 (by have := hl.getD i; omega)
theorem less_round (hG : Steady G) {l m : List Nat} (hl : Dig l) (hm : Dig m) (hle : val m ≤ val l) {i : Nat} (hi : i < l.length) (hb : l.length < 2 ^ 60) :
    Goes Tryz.prog G 0 (loopOf Tryz.f128 0) (lessInv l m i) .normal (lessInv l m (i + 1)) := by
  have hs := cSub_step (val l) (val m) i
  have hd := cSub_dig hle i
  rw [← getD_val hl, ← getD_val hm] at hs hd
  have h1 := hl.getD i
  have h2 := hm.getD i
  have h3 := cSub_le (val l) (val m) i
  have e : lessInv l m (i + 1) = lay 38 [(0, rowW l), (1, rowW m), (5, .slc 0 0 l.length l.length), (6, u64 (cSub (val l) (val m) (i + 1))), (13, nat l.length), (14, nat (i + 1))]
      [(0, splice (cel l.length (lessF (val l) (val m) i)) i [u32 ((val l - val m) / BP i % 4294967296)])] := by
    unfold lessInv
    have := fillF hi (fun j => (val l - val m) / BP j % 4294967296)
    have e2 : lessF (val l) (val m) i = fun j => if j < i then (val l - val m) / BP j % 4294967296 else 0 := rfl
    rw [e2, this]; rfl
  rw [e]
  exact Goes.of_run hG (ro := []) (m := 30) (lay_len ..)
    [.eq 15 (eqB (lt_true hi)), .prop (at_need hi), .prop (load_need hi), .eq 20 (headD_need hi), .eq 21 (eq64 (load64 hl i)), .call (word_spec hG m hm i),
     .eq 25 (eq64 (x := IntKind.wrap .u64 (Int.ofNat (l.getD i 0) - Int.ofNat (m.getD i 0))) (wrap_sub (by omega))),
     .eq 27 (eq64 (x := IntKind.wrap .u64 (Int.ofNat (subw (l.getD i 0) (m.getD i 0)) - Int.ofNat (cSub (val l) (val m) i))) (wrap_sub (by omega))),
     .eq 31 (eq32 (x := IntKind.wrap .u32 (Int.ofNat (subw (subw (l.getD i 0) (m.getD i 0)) (cSub (val l) (val m) i)))) (y := Int.ofNat ((val l - val m) / BP i % 4294967296)) (by
        rw [show Int.ofNat ((val l - val m) / BP i % 4294967296) = (((val l - val m) / BP i % 4294967296 : Nat) : Int) from rfl, ← hd, ← subw_lo h1 h2 h3]; exact wrap32)),
     .prop (ix_need hi), .eq 32 (ptr_at 0 i), .prop (p := i + 1 ≤ (cel l.length (lessF (val l) (val m) i)).length) (by rw [cel_len]; omega),
     .eq 34 (eq64 (x := (Int.ofNat (subw (subw (l.getD i 0) (m.getD i 0)) (cSub (val l) (val m) i))).fdiv (2 ^ min (Int.toNat 63) (IntKind.bits .u64))) (y := Int.ofNat (cSub (val l) (val m) (i + 1))) (by rw [shr63, subw_hi h1 h2 h3, ← hs])),
     .eq 35 (eqS (nat_succ (i := i) (by omega)))] (by kernel_rfl)
theorem less_last (hG : Steady G) {l m : List Nat} : Goes Tryz.prog G 0 (loopOf Tryz.f128 0) (lessInv l m l.length) (.exit 0) (lessInv l m l.length) :=
  Goes.of_run hG (ro := []) (m := 30) (lay_len ..) [.eq 15 (eqB (lt_false (Nat.le_refl l.length)))] (by kernel_rfl)
theorem less_loop (hG : Steady G) {l m : List Nat} (hl : Dig l) (hm : Dig m) (hle : val m ≤ val l) (hb : l.length < 2 ^ 60) :
    Abs Tryz.prog G 38 0 (.loop (loopOf Tryz.f128 0)) (lay 38 [(0, rowW l), (1, rowW m), (5, .slc 0 0 l.length l.length), (6, u64 0), (13, nat l.length), (14, nat 0)] [(0, List.replicate l.length (u32 0))]) (.exit 0)
      (lessInv l m l.length) := by
  have h := Abs.count (lessInv l m) l.length (fun i => lay_len _ _ _) (by simp) (fun i hi => less_round hG hl hm hle hi hb) (less_last hG)
  have e : lessInv l m 0 = lay 38 [(0, rowW l), (1, rowW m), (5, .slc 0 0 l.length l.length), (6, u64 0), (13, nat l.length), (14, nat 0)] [(0, List.replicate l.length (u32 0))] := by
    rw [cel_zero]; unfold lessInv; rw [cSub_zero]; congr 3
  rw [e] at h; exact h
/-- A difference of words that is not below 0. -/
theorem less_spec (hG : Steady G) {l m : List Nat} (hl : Dig l) (hm : Dig m) (hle : val m ≤ val l) (h1 : l.length ≤ 2 ^ 36) :
    Spec Tryz.prog G 128 [rowW l, rowW m] (rowW (words (val l - val m))) := by
  have h36 : (2:Nat) ^ 36 = 68719476736 := by decide
  have h40 : (2:Nat) ^ 40 = 1099511627776 := by decide
  have hN : l.length ≤ 2 ^ 40 := by omega
  have hfit : val l - val m < BP l.length := Nat.lt_of_le_of_lt (Nat.sub_le _ _) (val_lt hl)
  have ht := trim_spec (G := G) hG (l := digs l.length (val l - val m)) (digs_dig _ _) (by rw [digs_len]; exact hN)
  rw [words_digs hfit] at ht
  refine Spec.of_run hG Tryz.func128 (ro := []) (m := 30) (args := [rowW l, rowW m])
    [.prop (make_need hN), .code (less_loop hG hl hm hle (by omega)), .freeze 0,
     .eq 36 (d := D.row l.length false (((cel l.length (lessF (val l) (val m) l.length)).drop 0).take l.length)) (d' := rowW (digs l.length (val l - val m))) ?_, .call ht] (by kernel_rfl)
  rw [← cel_row]
  congr 3
  exact cel_congr fun j hj => by unfold lessF; rw [if_pos hj]

/-! ### compare -/
def cnt : Nat → Int
  | 0 => -1
  | i + 1 => Int.ofNat i
theorem cnt_eq (c : Nat) : cnt c = (c : Int) - 1 := by
  cases c with
  | zero => rfl
  | succ i => show Int.ofNat i = _; simp
theorem cnt_top {n : Nat} (h : n < 2 ^ 60) : IntKind.wrap .i64 (Int.ofNat n - 1) = cnt n := by
  have h60 : (2:Nat) ^ 60 = 1152921504606846976 := by decide
  rw [wrapS (by simp; omega) (by simp; omega), cnt_eq]; rfl
def cmpI (a b : Nat) : Int := if a < b then -1 else if b < a then 1 else 0
theorem cmp_digit {a b i : Nat} (h : a / BP (i + 1) = b / BP (i + 1)) : (a / BP i % 4294967296 = b / BP i % 4294967296 → a / BP i = b / BP i) ∧ (a / BP i % 4294967296 < b / BP i % 4294967296 → a < b) := by
  rw [div_BP_succ, div_BP_succ] at h
  refine ⟨fun h2 => by omega, fun h2 => ?_⟩
  have h3 : a / BP i < b / BP i := by omega
  rcases Nat.lt_or_ge a b with h4 | h4
  · exact h4
  · have := Nat.div_le_div_right (c := BP i) h4; omega
theorem words_len_lt {a b : Nat} (h : (words a).length < (words b).length) : a < b := by
  rcases Nat.lt_or_ge a b with h4 | h4
  · exact h4
  · exfalso
    have h1 := (len_le_iff a (words a).length).1 (Nat.le_refl _)
    have h2 := (len_le_iff b (words a).length).2 (Nat.lt_of_le_of_lt h4 h1)
    omega
theorem words_getD (a i : Nat) : (words a).getD i 0 = a / BP i % 4294967296 := by rw [getD_val (dig_words a), val_words]
theorem words_end (a : Nat) : a / BP (words a).length = 0 := Nat.div_eq_of_lt ((len_le_iff a _).1 (Nat.le_refl _))
def cmpInv (a b c : Nat) : St := lay 41 [(0, rowW (words a)), (1, rowW (words b)), (5, int (cnt c))] []
theorem cmp_same (hG : Steady G) {a b i : Nat} (h1 : i < (words a).length) (h2 : i < (words b).length) (hd : (words a).getD i 0 = (words b).getD i 0) (hb : (words a).length < 2 ^ 60) :
    Goes Tryz.prog G 0 (loopOf Tryz.f127 0) (cmpInv a b (i + 1)) .normal (cmpInv a b i) :=
  Goes.of_run hG (ro := []) (m := 30) (lay_len ..)
    [.eq 20 (eqB (x := decide (Int.ofNat i ≥ 0)) (y := true) (by simp)), .prop (at_need h1), .prop (load_need h1), .eq 26 (headD_need h1), .prop (at_need h2), .prop (load_need h2), .eq 30 (headD_need h2),
     .eq 31 (eqB (x := Int.ofNat ((words a).getD i 0) != Int.ofNat ((words b).getD i 0)) (y := false) (by rw [hd]; simp)), .eq 22 (eqS (cnt_top (n := i) (by omega)))] (by kernel_rfl)
theorem cmp_lt (hG : Steady G) {a b i : Nat} (h1 : i < (words a).length) (h2 : i < (words b).length) (hd : (words a).getD i 0 < (words b).getD i 0) :
    Goes Tryz.prog G 0 (loopOf Tryz.f127 0) (cmpInv a b (i + 1)) .ret (lay 41 [(4, int (-1))] []) :=
  Goes.of_run hG (ro := []) (m := 30) (lay_len ..)
    [.eq 20 (eqB (x := decide (Int.ofNat i ≥ 0)) (y := true) (by simp)), .prop (at_need h1), .prop (load_need h1), .eq 26 (headD_need h1), .prop (at_need h2), .prop (load_need h2), .eq 30 (headD_need h2),
     .eq 31 (eqB (x := Int.ofNat ((words a).getD i 0) != Int.ofNat ((words b).getD i 0)) (y := true) (by simp only [bne_iff_ne, Int.ofNat_eq_natCast]; omega)),
     .prop (at_need h1), .prop (load_need h1), .eq 35 (headD_need h1), .prop (at_need h2), .prop (load_need h2), .eq 39 (headD_need h2),
     .eq 40 (eqB (x := decide (Int.ofNat ((words a).getD i 0) < Int.ofNat ((words b).getD i 0))) (y := true) (lt_true hd))] (by kernel_rfl)
theorem cmp_gt (hG : Steady G) {a b i : Nat} (h1 : i < (words a).length) (h2 : i < (words b).length) (hd : (words b).getD i 0 < (words a).getD i 0) :
    Goes Tryz.prog G 0 (loopOf Tryz.f127 0) (cmpInv a b (i + 1)) .ret (lay 41 [(4, int 1)] []) :=
  Goes.of_run hG (ro := []) (m := 30) (lay_len ..)
    [.eq 20 (eqB (x := decide (Int.ofNat i ≥ 0)) (y := true) (by simp)), .prop (at_need h1), .prop (load_need h1), .eq 26 (headD_need h1), .prop (at_need h2), .prop (load_need h2), .eq 30 (headD_need h2),
     .eq 31 (eqB (x := Int.ofNat ((words a).getD i 0) != Int.ofNat ((words b).getD i 0)) (y := true) (by simp only [bne_iff_ne, Int.ofNat_eq_natCast]; omega)),
     .prop (at_need h1), .prop (load_need h1), .eq 35 (headD_need h1), .prop (at_need h2), .prop (load_need h2), .eq 39 (headD_need h2),
     .eq 40 (eqB (x := decide (Int.ofNat ((words a).getD i 0) < Int.ofNat ((words b).getD i 0))) (y := false) (lt_false (Nat.le_of_lt hd)))] (by kernel_rfl)
theorem cmp_end (hG : Steady G) {a b : Nat} : Goes Tryz.prog G 0 (loopOf Tryz.f127 0) (cmpInv a b 0) (.exit 0) (cmpInv a b 0) :=
  Goes.of_run hG (ro := []) (m := 30) (lay_len ..) [] (by kernel_rfl)
theorem cmp_loop_eq (hG : Steady G) {a : Nat} (hb : (words a).length < 2 ^ 60) :
    Abs Tryz.prog G 41 0 (.loop (loopOf Tryz.f127 0)) (cmpInv a a (words a).length) (.exit 0) (cmpInv a a 0) :=
  Abs.rounds (fun c => c ≤ (words a).length) (cmpInv a a) id (fun i => lay_len _ _ _) (by simp) (fun c hc => by
    cases c with
    | zero => exact .inr (cmp_end hG)
    | succ i => exact .inl ⟨i, by omega, by simp, cmp_same hG hc hc rfl hb⟩) _ (Nat.le_refl _)
theorem cmp_loop_ne (hG : Steady G) {a b : Nat} (hne : a ≠ b) (hl : (words a).length = (words b).length) (hb : (words a).length < 2 ^ 60) :
    Abs Tryz.prog G 41 0 (.loop (loopOf Tryz.f127 0)) (cmpInv a b (words a).length) .ret (lay 41 [(4, int (cmpI a b))] []) :=
  Abs.rounds (fun c => c ≤ (words a).length ∧ a / BP c = b / BP c) (cmpInv a b) id (fun i => lay_len _ _ _) (by simp) (fun c hc => by
    obtain ⟨hc, he⟩ := hc
    cases c with
    | zero => exact absurd (by rw [BP_zero, Nat.div_one, Nat.div_one] at he; exact he) hne
    | succ i =>
      obtain ⟨d1, d2⟩ := cmp_digit he
      obtain ⟨-, d3⟩ := cmp_digit he.symm
      rw [← words_getD, ← words_getD] at d1 d2 d3
      rcases Nat.lt_trichotomy ((words a).getD i 0) ((words b).getD i 0) with h | h | h
      · right
        have := cmp_lt (G := G) hG hc (by omega) h
        rw [show cmpI a b = -1 by unfold cmpI; rw [if_pos (d2 h)]]; exact this
      · exact .inl ⟨i, ⟨by omega, d1 h⟩, by simp, cmp_same hG hc (by omega) h hb⟩
      · right
        have := cmp_gt (G := G) hG hc (by omega) h
        rw [show cmpI a b = 1 by unfold cmpI; have := d3 h; rw [if_neg (by omega), if_pos this]]; exact this) _ ⟨Nat.le_refl _, by rw [words_end, hl, words_end]⟩
/-- The order of two numbers by their words. -/
theorem compare_spec (hG : Steady G) (a b : Nat) (ha : (words a).length ≤ 2 ^ 36) (hb : (words b).length ≤ 2 ^ 36) :
    Spec Tryz.prog G 127 [rowW (words a), rowW (words b)] (int (cmpI a b)) := by
  have h36 : (2:Nat) ^ 36 = 68719476736 := by decide
  have h60 : (2:Nat) ^ 60 = 1152921504606846976 := by decide
  rcases Nat.lt_trichotomy (words a).length (words b).length with h | h | h
  · have := words_len_lt h
    rw [show cmpI a b = -1 by unfold cmpI; rw [if_pos this]]
    exact Spec.of_run hG Tryz.func127 (ro := []) (m := 30)
      [.eq 10 (eqB (x := Int.ofNat (words a).length != Int.ofNat (words b).length) (y := true) (by simp only [bne_iff_ne, Int.ofNat_eq_natCast]; omega)), .eq 15 (eqB (lt_true h))] (by kernel_rfl)
  · by_cases he : a = b
    · subst he
      rw [show cmpI a a = 0 by unfold cmpI; rw [if_neg (by omega), if_neg (by omega)]]
      exact Spec.of_run hG Tryz.func127 (ro := []) (m := 30)
        [.eq 10 (eqB (x := Int.ofNat (words a).length != Int.ofNat (words a).length) (y := false) (by simp)), .eq 18 (eqS (cnt_top (n := (words a).length) (by omega))), .code (cmp_loop_eq (a := a) hG (by omega))] (by kernel_rfl)
    · exact Spec.of_run hG Tryz.func127 (ro := []) (m := 30)
        [.eq 10 (eqB (x := Int.ofNat (words a).length != Int.ofNat (words b).length) (y := false) (by rw [h]; simp)), .eq 18 (eqS (cnt_top (n := (words a).length) (by omega))), .code (cmp_loop_ne hG he h (by omega))] (by kernel_rfl)
  · have := words_len_lt h
    rw [show cmpI a b = 1 by unfold cmpI; rw [if_neg (by omega), if_pos this]]
    exact Spec.of_run hG Tryz.func127 (ro := []) (m := 30)
      [.eq 10 (eqB (x := Int.ofNat (words a).length != Int.ofNat (words b).length) (y := true) (by simp only [bne_iff_ne, Int.ofNat_eq_natCast]; omega)), .eq 15 (eqB (lt_false (Nat.le_of_lt h)))] (by kernel_rfl)
end Lw

namespace Lw
open Go Go.RowKit Go.Proofs

variable {G : World → Prop}

/-! ### times -/
def timT (l m : List Nat) (i : Nat) : Nat := val l % BP i * val m
def timU (l m : List Nat) (i : Nat) : Nat := timT l m i + l.getD i 0 * val m * BP i
theorem timU_eq {l : List Nat} (hl : Dig l) (m : List Nat) (i : Nat) : timU l m i = timT l m (i + 1) := by
  unfold timU timT
  rw [mod_BP_succ, ← getD_val hl, Nat.add_mul, Nat.mul_assoc, Nat.mul_comm (val m) (BP i), ← Nat.mul_assoc, Nat.mul_comm (l.getD i 0), Nat.add_comm]
theorem timU_div (l m : List Nat) (i k : Nat) : timU l m i / BP (i + k) = (timT l m i / BP i + l.getD i 0 * val m) / BP k := by
  unfold timU
  rw [BP_add, ← Nat.div_div_eq_div_mul, Nat.add_mul_div_right _ _ (BP_pos i)]
theorem timT_div (l m : List Nat) (i k : Nat) : timT l m i / BP (i + k) = timT l m i / BP i / BP k := by rw [BP_add, Nat.div_div_eq_div_mul]
theorem timT_lt {l m : List Nat} (hm : Dig m) (i : Nat) (hm0 : 0 < BP m.length) : timT l m i < BP (i + m.length) := by
  unfold timT
  rw [BP_add]
  have h1 := mod_BP_lt (val l) i
  have h2 := val_lt hm
  calc val l % BP i * val m ≤ val l % BP i * BP m.length := Nat.mul_le_mul_left _ (Nat.le_of_lt h2)
    _ < BP i * BP m.length := Nat.mul_lt_mul_of_pos_right h1 hm0
def timF (l m : List Nat) (i k j : Nat) : Nat := if j < i + k then timU l m i / BP j % 4294967296 else timT l m i / BP j % 4294967296
def timC (l m : List Nat) (i k : Nat) : Nat := cMul (timT l m i / BP i) (l.getD i 0) (val m) k
def timN (l m : List Nat) : Nat := l.length + m.length
def timIn (l m : List Nat) (i k : Nat) : St :=
  lay 67 [(0, rowW l), (1, rowW m), (5, .slc 0 0 (timN l m) (timN l m)), (6, nat i), (7, u32 (l.getD i 0)), (8, u64 (timC l m i k)), (17, rowW l), (18, nat l.length), (19, nat i), (24, rowW m), (25, nat m.length), (26, nat k)]
    [(0, cel (timN l m) (timF l m i k))]
theorem nat_add {i k : Nat} (h : i + k < 2 ^ 60) : IntKind.wrap .i64 (Int.ofNat i + Int.ofNat k) = Int.ofNat (i + k) := by
  have h60 : (2:Nat) ^ 60 = 1152921504606846976 := by decide
  rw [wrapS (by simp; omega) (by simp; omega)]; simp
theorem wrap_add {x y : Nat} (h : x + y < 18446744073709551616) : IntKind.wrap .u64 (Int.ofNat x + Int.ofNat y) = Int.ofNat (x + y) := wrap64 (n := x + y) h
theorem wrap_mul {x y : Nat} (h : x * y < 18446744073709551616) : IntKind.wrap .u64 (Int.ofNat x * Int.ofNat y) = Int.ofNat (x * y) := wrap64 (n := x * y) h
theorem conv64 {x : Nat} (h : x < 4294967296) : IntKind.wrap .u64 (Int.ofNat x) = Int.ofNat x := wrap64 (by omega)
theorem conv32 (x : Nat) : IntKind.wrap .u32 (Int.ofNat x) = Int.ofNat (x % 4294967296) := wrap32
theorem mul_lt64 {x y : Nat} (hx : x < 4294967296) (hy : y < 4294967296) : x * y ≤ 18446744065119617025 := by
  have : x * y ≤ 4294967295 * 4294967295 := Nat.mul_le_mul (by omega) (by omega)
  omega
theorem tim_inner (hG : Steady G) {l m : List Nat} (hl : Dig l) (hm : Dig m) {i k : Nat} (hi : i < l.length) (hk : k < m.length) (hb : timN l m < 2 ^ 60) :
    Goes Tryz.prog G 0 (loopOf Tryz.f136 1) (timIn l m i k) .normal (timIn l m i (k + 1)) := by
  have h60 : (2:Nat) ^ 60 = 1152921504606846976 := by decide
  have hN : i + k < timN l m := by unfold timN; omega
  have hx := hl.getD i
  have hy := hm.getD k
  have hs := cMul_step (timT l m i / BP i) (l.getD i 0) (val m) k
  have hd := cMul_dig (timT l m i / BP i) (l.getD i 0) (val m) k
  rw [← getD_val hm, ← timT_div] at hs hd
  rw [← timU_div] at hd
  have hc := cMul_lt (timT l m i / BP i) (val m) k hx
  have hxy := mul_lt64 hx hy
  have ht : timT l m i / BP (i + k) % 4294967296 < 4294967296 := Nat.mod_lt _ (by omega)
  have hF : timF l m i k (i + k) = timT l m i / BP (i + k) % 4294967296 := by unfold timF; rw [if_neg (by omega)]
  have e : timIn l m i (k + 1) = lay 67 [(0, rowW l), (1, rowW m), (5, .slc 0 0 (timN l m) (timN l m)), (6, nat i), (7, u32 (l.getD i 0)), (8, u64 (timC l m i (k + 1))), (17, rowW l), (18, nat l.length), (19, nat i), (24, rowW m), (25, nat m.length), (26, nat (k + 1))]
      [(0, splice (cel (timN l m) (timF l m i k)) (i + k) [u32 (timU l m i / BP (i + k) % 4294967296)])] := by
    rw [splice_cel _ _ hN]
    unfold timIn
    congr 3
    refine cel_congr fun j _ => ?_
    unfold timF
    by_cases hj : j = i + k
    · subst hj; rw [if_pos (by omega), if_pos rfl]
    · rw [if_neg hj]
      by_cases h2 : j < i + k
      · rw [if_pos h2, if_pos (by omega)]
      · rw [if_neg h2, if_neg (by omega)]
  rw [e]
  exact Goes.of_run hG (ro := []) (m := 30) (lay_len ..)
    [.eq 27 (eqB (lt_true hk)), .prop (at_need hk), .prop (load_need hk), .eq 30 (headD_need hk), .eq 33 (eq64 (conv64 hx)), .eq 35 (eq64 (conv64 hy)), .eq 36 (eq64 (wrap_mul (x := l.getD i 0) (y := m.getD k 0) (by omega))),
     .eq 40 (eqS (nat_add (i := i) (k := k) (by omega))), .prop (ix_need hN), .eq 41 (ptr_at 0 (i + k)), .prop (p := 0 < 1 ∧ i + k + 1 ≤ (cel (timN l m) (timF l m i k)).length) (by rw [cel_len]; omega),
     .eq 42 (d := ((cel (timN l m) (timF l m i k)).drop (i + k)).headD .any) (d' := u32 (timT l m i / BP (i + k) % 4294967296)) (by rw [cel_getD hN, hF]), .eq 43 (eq64 (conv64 ht)),
     .eq 44 (eq64 (wrap_add (x := l.getD i 0 * m.getD k 0) (y := timT l m i / BP (i + k) % 4294967296) (by omega))),
     .eq 45 (eq64 (wrap_add (x := timC l m i k) (y := l.getD i 0 * m.getD k 0 + timT l m i / BP (i + k) % 4294967296) (by unfold timC; omega))),
     .eq 49 (eqS (nat_add (i := i) (k := k) (by omega))), .eq 51 (eq32 (x := IntKind.wrap .u32 (Int.ofNat (timC l m i k + (l.getD i 0 * m.getD k 0 + timT l m i / BP (i + k) % 4294967296)))) (y := Int.ofNat (timU l m i / BP (i + k) % 4294967296)) (by rw [conv32, ← hd]; rfl)),
     .prop (ix_need hN), .eq 52 (ptr_at 0 (i + k)), .prop (p := i + k + 1 ≤ (cel (timN l m) (timF l m i k)).length) (by rw [cel_len]; omega),
     .eq 54 (eq64 (x := (Int.ofNat (timC l m i k + (l.getD i 0 * m.getD k 0 + timT l m i / BP (i + k) % 4294967296))).fdiv (2 ^ min (Int.toNat 32) (IntKind.bits .u64))) (y := Int.ofNat (timC l m i (k + 1))) (by rw [shr32]; unfold timC; rw [hs])),
     .eq 55 (eqS (nat_succ (i := k) (by omega)))] (by kernel_rfl)
theorem tim_inner_last (hG : Steady G) {l m : List Nat} {i : Nat} : Goes Tryz.prog G 0 (loopOf Tryz.f136 1) (timIn l m i m.length) (.exit 2) (timIn l m i m.length) :=
  Goes.of_run hG (ro := []) (m := 30) (lay_len ..) [.eq 27 (eqB (lt_false (Nat.le_refl m.length)))] (by kernel_rfl)
def timOut (l m : List Nat) (i : Nat) : St :=
  lay 67 [(0, rowW l), (1, rowW m), (5, .slc 0 0 (timN l m) (timN l m)), (17, rowW l), (18, nat l.length), (19, nat i)] [(0, cel (timN l m) (fun j => timT l m i / BP j % 4294967296))]
theorem tim_inner_loop (hG : Steady G) {l m : List Nat} (hl : Dig l) (hm : Dig m) {i : Nat} (hi : i < l.length) (hb : timN l m < 2 ^ 60) :
    Abs Tryz.prog G 67 0 (.loop (loopOf Tryz.f136 1))
      (lay 67 [(0, rowW l), (1, rowW m), (5, .slc 0 0 (timN l m) (timN l m)), (6, nat i), (7, u32 (l.getD i 0)), (8, u64 0), (17, rowW l), (18, nat l.length), (19, nat i), (24, rowW m), (25, nat m.length), (26, nat 0)]
        [(0, cel (timN l m) (fun j => timT l m i / BP j % 4294967296))]) (.exit 2) (timIn l m i m.length) := by
  have h := Abs.count (timIn l m i) m.length (fun k => lay_len _ _ _) (by simp) (fun k hk => tim_inner hG hl hm hi hk hb) (tim_inner_last hG)
  have e : timIn l m i 0 = lay 67 [(0, rowW l), (1, rowW m), (5, .slc 0 0 (timN l m) (timN l m)), (6, nat i), (7, u32 (l.getD i 0)), (8, u64 0), (17, rowW l), (18, nat l.length), (19, nat i), (24, rowW m), (25, nat m.length), (26, nat 0)]
        [(0, cel (timN l m) (fun j => timT l m i / BP j % 4294967296))] := by
    unfold timIn timC
    rw [cMul_zero]
    congr 3
    refine cel_congr fun j _ => ?_
    unfold timF
    by_cases hj : j < i + 0
    · rw [if_pos hj]
      unfold timU
      have e1 : i = j + (i - j - 1) + 1 := by omega
      have e2 : timT l m i + l.getD i 0 * val m * BP i = timT l m i + (l.getD i 0 * val m * BP (i - j - 1) * 4294967296) * BP j := by
        conv => lhs; arg 2; rw [e1]
        rw [BP_succ, BP_add]
        simp only [Nat.mul_assoc, Nat.mul_comm, Nat.mul_left_comm]
        rw [← e1]
      rw [e2, Nat.add_mul_div_right _ _ (BP_pos j)]; omega
    · rw [if_neg hj]
  rw [e] at h; exact h
theorem tim_outer (hG : Steady G) {l m : List Nat} (hl : Dig l) (hm : Dig m) {i : Nat} (hi : i < l.length) (hb : timN l m < 2 ^ 60) :
    Goes Tryz.prog G 0 (loopOf Tryz.f136 0) (timOut l m i) .normal (timOut l m (i + 1)) := by
  have h60 : (2:Nat) ^ 60 = 1152921504606846976 := by decide
  have hN : i + m.length < timN l m := by unfold timN; omega
  have hT := timT_lt (l := l) hm i (BP_pos _)
  have hx := hl.getD i
  have hC : timC l m i m.length = timU l m i / BP (i + m.length) := by
    unfold timC
    rw [timU_div]
    refine cMul_end ?_ (val_lt hm)
    rw [Nat.div_lt_iff_lt_mul (BP_pos i), ← BP_add, Nat.add_comm]; exact hT
  have hClt : timC l m i m.length < 4294967296 := by unfold timC; exact cMul_lt _ _ _ hx
  have e : timOut l m (i + 1) = lay 67 [(0, rowW l), (1, rowW m), (5, .slc 0 0 (timN l m) (timN l m)), (17, rowW l), (18, nat l.length), (19, nat (i + 1))]
      [(0, splice (cel (timN l m) (timF l m i m.length)) (i + m.length) [u32 (timC l m i m.length % 4294967296)])] := by
    rw [splice_cel _ _ hN]
    unfold timOut
    congr 3
    refine cel_congr fun j _ => ?_
    rw [← timU_eq hl]
    unfold timF
    by_cases hj : j = i + m.length
    · subst hj; rw [if_pos rfl, hC]
    · rw [if_neg hj]
      by_cases h2 : j < i + m.length
      · rw [if_pos h2]
      · rw [if_neg h2]
        have h3 : BP (i + m.length + 1) ≤ BP j := BP_mono (by omega)
        have h4 : timU l m i < BP (i + m.length + 1) := by
          have := hClt
          rw [hC, Nat.div_lt_iff_lt_mul (BP_pos _)] at this
          rw [BP_succ]; exact this
        have h5 : BP (i + m.length) ≤ BP j := BP_mono (by omega)
        rw [Nat.div_eq_of_lt (by omega), Nat.div_eq_of_lt (by omega)]
  rw [e]
  exact Goes.of_run hG (ro := []) (m := 30) (lay_len ..)
    [.eq 20 (eqB (lt_true hi)), .prop (at_need hi), .prop (load_need hi), .eq 23 (headD_need hi), .code (tim_inner_loop hG hl hm hi hb),
     .eq 60 (eqS (nat_add (i := i) (k := m.length) (by omega))), .eq 62 (eq32 (conv32 (timC l m i m.length))), .prop (ix_need hN), .eq 63 (ptr_at 0 (i + m.length)),
     .prop (p := i + m.length + 1 ≤ (cel (timN l m) (timF l m i m.length)).length) (by rw [cel_len]; omega), .eq 64 (eqS (nat_succ (i := i) (by omega)))] (by kernel_rfl)
theorem tim_outer_last (hG : Steady G) {l m : List Nat} : Goes Tryz.prog G 0 (loopOf Tryz.f136 0) (timOut l m l.length) (.exit 0) (timOut l m l.length) :=
  Goes.of_run hG (ro := []) (m := 30) (lay_len ..) [.eq 20 (eqB (lt_false (Nat.le_refl l.length)))] (by kernel_rfl)
theorem tim_loop (hG : Steady G) {l m : List Nat} (hl : Dig l) (hm : Dig m) (hb : timN l m < 2 ^ 60) :
    Abs Tryz.prog G 67 0 (.loop (loopOf Tryz.f136 0))
      (lay 67 [(0, rowW l), (1, rowW m), (5, .slc 0 0 (timN l m) (timN l m)), (17, rowW l), (18, nat l.length), (19, nat 0)] [(0, List.replicate (timN l m) (u32 0))]) (.exit 0) (timOut l m l.length) := by
  have h := Abs.count (timOut l m) l.length (fun k => lay_len _ _ _) (by simp) (fun i hi => tim_outer hG hl hm hi hb) (tim_outer_last hG)
  have e : timOut l m 0 = lay 67 [(0, rowW l), (1, rowW m), (5, .slc 0 0 (timN l m) (timN l m)), (17, rowW l), (18, nat l.length), (19, nat 0)] [(0, List.replicate (timN l m) (u32 0))] := by
    rw [cel_zero]
    unfold timOut timT
    rw [BP_zero, Nat.mod_one, Nat.zero_mul]
    congr 3
    exact cel_congr fun j _ => by rw [Nat.zero_div]
  rw [e] at h; exact h
/-- A product of words. -/
theorem times_spec (hG : Steady G) {l m : List Nat} (hl : Dig l) (hm : Dig m) (h1 : l.length ≤ 2 ^ 36) (h2 : m.length ≤ 2 ^ 36) :
    Spec Tryz.prog G 136 [rowW l, rowW m] (rowW (words (val l * val m))) := by
  have h36 : (2:Nat) ^ 36 = 68719476736 := by decide
  have h40 : (2:Nat) ^ 40 = 1099511627776 := by decide
  have h60 : (2:Nat) ^ 60 = 1152921504606846976 := by decide
  have hN : timN l m ≤ 2 ^ 40 := by unfold timN; omega
  have hT : timT l m l.length = val l * val m := by unfold timT; rw [Nat.mod_eq_of_lt (val_lt hl)]
  have hfit : val l * val m < BP (timN l m) := by rw [← hT]; exact timT_lt hm _ (BP_pos _)
  have ht := trim_spec (G := G) hG (l := digs (timN l m) (val l * val m)) (digs_dig _ _) (by rw [digs_len]; exact hN)
  rw [words_digs hfit] at ht
  refine Spec.of_run hG Tryz.func136 (ro := []) (m := 30) (args := [rowW l, rowW m])
    [.eq 15 (eqS (nat_add (i := l.length) (k := m.length) (by omega))), .prop (make_need hN), .code (tim_loop hG hl hm (by omega)), .freeze 0,
     .eq 65 (d := D.row (timN l m) false (((cel (timN l m) (fun j => timT l m l.length / BP j % 4294967296)).drop 0).take (timN l m))) (d' := rowW (digs (timN l m) (val l * val m))) (by rw [hT]; exact cel_row _ _), .call ht] (by kernel_rfl)
end Lw

namespace Lw
open Go Go.RowKit Go.Proofs

variable {G : World → Prop}

theorem or_bits {x y : Nat} (hx : x < 18446744073709551616) (hy : y < 18446744073709551616) :
    IntKind.wrap .u64 (((BitVec.ofInt (IntKind.bits .u64) (Int.ofNat x) ||| BitVec.ofInt (IntKind.bits .u64) (Int.ofNat y)).toNat : Nat) : Int) = Int.ofNat (x ||| y) := by
  have e : ∀ z : Nat, z < 18446744073709551616 → (BitVec.ofInt (IntKind.bits .u64) (Int.ofNat z)).toNat = z := by
    intro z hz
    show (BitVec.ofInt 64 (Int.ofNat z)).toNat = z
    simp only [Int.ofNat_eq_natCast, BitVec.ofInt_natCast, BitVec.toNat_ofNat]
    exact Nat.mod_eq_of_lt (by simpa using hz)
  rw [BitVec.toNat_or, e x hx, e y hy]
  exact wrap64 (Nat.or_lt_two_pow (n := 64) (by simpa using hx) (by simpa using hy))
theorem or_add {x y : Nat} (hy : y < 4294967296) : x * 4294967296 ||| y = x * 4294967296 + y := by
  have := Nat.two_pow_add_eq_or_of_lt (i := 32) (b := y) (by simpa using hy) x
  rw [show (2:Nat) ^ 32 = 4294967296 by decide] at this
  rw [Nat.mul_comm]; exact this.symm
theorem shl32 {x : Nat} (h : x < 4294967296) : IntKind.wrap .u64 (Int.ofNat x * 2 ^ min (Int.toNat 32) (IntKind.bits .u64)) = Int.ofNat (x * 4294967296) := by
  rw [show (2:Int) ^ min (Int.toNat 32) (IntKind.bits .u64) = Int.ofNat 4294967296 by decide]
  exact wrap_mul (by omega)
theorem quo64 {s d : Nat} (hs : s < 18446744073709551616) : IntKind.wrap .u64 ((Int.ofNat s).tdiv (Int.ofNat d)) = Int.ofNat (s / d) := by
  have : (Int.ofNat s).tdiv (Int.ofNat d) = Int.ofNat (s / d) := rfl
  rw [this]
  exact wrap64 (Nat.lt_of_le_of_lt (Nat.div_le_self _ _) hs)
theorem rem64 (s d : Nat) : (Int.ofNat s).tmod (Int.ofNat d) = Int.ofNat (s % d) := rfl
theorem pos_need {d : Nat} (h : 0 < d) : Int.ofNat d ≠ 0 := by simp; omega

/-! ### short -/
def shoF (a d c j : Nat) : Nat := if c ≤ j then a / d / BP j % 4294967296 else 0
theorem downF {N i : Nat} (hi : i < N) (g : Nat → Nat) : splice (cel N (fun j => if i + 1 ≤ j then g j else 0)) i [u32 (g i)] = cel N (fun j => if i ≤ j then g j else 0) := by
  rw [splice_cel _ _ hi]
  refine cel_congr fun j _ => ?_
  by_cases hji : j = i
  · subst hji; simp
  · rw [if_neg hji]; by_cases h : i ≤ j
    · rw [if_pos h, if_pos (by omega)]
    · rw [if_neg h, if_neg (by omega)]
def shoInv (l : List Nat) (d c : Nat) : St :=
  lay 43 [(0, rowW l), (1, u32 d), (6, .slc 0 0 l.length l.length), (7, u64 (val l / BP c % d)), (8, int (cnt c))] [(0, cel l.length (shoF (val l) d c))]
theorem sho_round (hG : Steady G) {l : List Nat} (hl : Dig l) {d i : Nat} (hd0 : 0 < d) (hd : d < 4294967296) (hi : i < l.length) (hb : l.length < 2 ^ 60) :
    Goes Tryz.prog G 0 (loopOf Tryz.f232 0) (shoInv l d (i + 1)) .normal (shoInv l d i) := by
  have hx := hl.getD i
  obtain ⟨s1, s2, s3⟩ := short_step (val l) i hd0
  have hr : val l / BP (i + 1) % d < d := Nat.mod_lt _ hd0
  rw [← getD_val hl] at s1 s2 s3
  have e : shoInv l d i = lay 43 [(0, rowW l), (1, u32 d), (6, .slc 0 0 l.length l.length), (7, u64 (val l / BP i % d)), (8, int (cnt i))]
      [(0, splice (cel l.length (shoF (val l) d (i + 1))) i [u32 (val l / d / BP i % 4294967296)])] := by
    unfold shoInv
    have := downF hi (fun j => val l / d / BP j % 4294967296)
    have e2 : shoF (val l) d (i + 1) = fun j => if i + 1 ≤ j then val l / d / BP j % 4294967296 else 0 := rfl
    rw [e2, this]; rfl
  rw [e]
  exact Goes.of_run hG (ro := []) (m := 30) (lay_len ..)
    [.eq 16 (eqB (x := decide (Int.ofNat i ≥ 0)) (y := true) (by simp)), .eq 20 (eq64 (shl32 (x := val l / BP (i + 1) % d) (by omega))), .prop (at_need hi), .prop (load_need hi), .eq 24 (headD_need hi), .eq 25 (eq64 (conv64 hx)),
     .eq 26 (eq64 (x := IntKind.wrap .u64 (((BitVec.ofInt (IntKind.bits .u64) (Int.ofNat (val l / BP (i + 1) % d * 4294967296)) ||| BitVec.ofInt (IntKind.bits .u64) (Int.ofNat (l.getD i 0))).toNat : Nat) : Int))
        (y := Int.ofNat (val l / BP (i + 1) % d * 4294967296 + l.getD i 0)) (by rw [or_bits (by omega) (by omega), or_add hx])),
     .eq 31 (eq64 (conv64 hd)), .prop (pos_need hd0), .eq 32 (eq64 (quo64 (s := val l / BP (i + 1) % d * 4294967296 + l.getD i 0) (d := d) (by omega))),
     .eq 33 (eq32 (x := IntKind.wrap .u32 (Int.ofNat ((val l / BP (i + 1) % d * 4294967296 + l.getD i 0) / d))) (y := Int.ofNat (val l / d / BP i % 4294967296)) (by rw [conv32, s1])),
     .prop (ix_need hi), .eq 34 (ptr_at 0 i), .prop (p := i + 1 ≤ (cel l.length (shoF (val l) d (i + 1))).length) (by rw [cel_len]; omega),
     .eq 37 (eq64 (conv64 hd)), .prop (pos_need hd0), .eq 38 (eq64 (x := (Int.ofNat (val l / BP (i + 1) % d * 4294967296 + l.getD i 0)).tmod (Int.ofNat d)) (y := Int.ofNat (val l / BP i % d)) (by rw [rem64, s2])),
     .eq 18 (eqS (cnt_top (n := i) (by omega)))] (by kernel_rfl)
theorem sho_last (hG : Steady G) {l : List Nat} {d : Nat} : Goes Tryz.prog G 0 (loopOf Tryz.f232 0) (shoInv l d 0) (.exit 0) (shoInv l d 0) :=
  Goes.of_run hG (ro := []) (m := 30) (lay_len ..) [] (by kernel_rfl)
theorem Abs.down {P : Program} {Good : World → Prop} {gb : Nat} {body : Code} (inv : Nat → St) (n : Nat) {len : Nat} {e : XEnd} {s' : St} (hlen : ∀ i, (inv i).tmps.length = len) (he : e ≠ .normal)
    (round : ∀ i, i < n → Goes P Good gb body (inv (i + 1)) .normal (inv i)) (last : Goes P Good gb body (inv 0) e s') : Abs P Good len gb (.loop body) (inv n) e s' :=
  Abs.rounds (fun c => c ≤ n) inv id hlen he (fun c hc => by
    cases c with
    | zero => exact .inr last
    | succ i => exact .inl ⟨i, by omega, by simp, round i hc⟩) n (Nat.le_refl _)
theorem sho_loop (hG : Steady G) {l : List Nat} (hl : Dig l) {d : Nat} (hd0 : 0 < d) (hd : d < 4294967296) (hb : l.length < 2 ^ 60) :
    Abs Tryz.prog G 43 0 (.loop (loopOf Tryz.f232 0))
      (lay 43 [(0, rowW l), (1, u32 d), (6, .slc 0 0 l.length l.length), (7, u64 0), (8, int (cnt l.length))] [(0, List.replicate l.length (u32 0))]) (.exit 0) (shoInv l d 0) := by
  have h := Abs.down (shoInv l d) l.length (fun k => lay_len _ _ _) (by simp) (fun i hi => sho_round hG hl hd0 hd hi hb) (sho_last hG)
  have e : shoInv l d l.length = lay 43 [(0, rowW l), (1, u32 d), (6, .slc 0 0 l.length l.length), (7, u64 0), (8, int (cnt l.length))] [(0, List.replicate l.length (u32 0))] := by
    rw [cel_zero]
    unfold shoInv
    rw [Nat.div_eq_of_lt (val_lt hl), Nat.zero_mod]
    congr 3
    exact cel_congr fun j hj => by unfold shoF; rw [if_neg (by omega)]
  rw [e] at h; exact h
/-- Quotient and rest of words by one word. -/
theorem short_spec (hG : Steady G) {l : List Nat} (hl : Dig l) {d : Nat} (hd0 : 0 < d) (hd : d < 4294967296) (h1 : l.length ≤ 2 ^ 36) :
    Spec Tryz.prog G 232 [rowW l, u32 d] (.tup [rowW (words (val l / d)), u32 (val l % d)]) := by
  have h36 : (2:Nat) ^ 36 = 68719476736 := by decide
  have h40 : (2:Nat) ^ 40 = 1099511627776 := by decide
  have h60 : (2:Nat) ^ 60 = 1152921504606846976 := by decide
  have hN : l.length ≤ 2 ^ 40 := by omega
  have hfit : val l / d < BP l.length := Nat.lt_of_le_of_lt (Nat.div_le_self _ _) (val_lt hl)
  have ht := trim_spec (G := G) hG (l := digs l.length (val l / d)) (digs_dig _ _) (by rw [digs_len]; exact hN)
  rw [words_digs hfit] at ht
  refine Spec.of_run hG Tryz.func232 (ro := []) (m := 30) (args := [rowW l, u32 d])
    [.prop (make_need hN), .eq 14 (eqS (cnt_top (n := l.length) (by omega))), .code (sho_loop hG hl hd0 hd (by omega)), .freeze 0,
     .eq 39 (d := D.row l.length false (((cel l.length (shoF (val l) d 0)).drop 0).take l.length)) (d' := rowW (digs l.length (val l / d))) ?_, .call ht,
     .eq 42 (eq32 (x := IntKind.wrap .u32 (Int.ofNat (val l / BP 0 % d))) (y := Int.ofNat (val l % d)) ?_)] (by kernel_rfl)
  · rw [← cel_row]
    congr 3
  · have := Nat.mod_lt (val l) hd0
    rw [conv32, BP_zero, Nat.div_one, Nat.mod_eq_of_lt (by omega)]
end Lw

namespace Lw
open Go Go.RowKit Go.Proofs

variable {G : World → Prop}

theorem or_bits32 {x y : Nat} (hx : x < 4294967296) (hy : y < 4294967296) :
    IntKind.wrap .u32 (((BitVec.ofInt (IntKind.bits .u32) (Int.ofNat x) ||| BitVec.ofInt (IntKind.bits .u32) (Int.ofNat y)).toNat : Nat) : Int) = Int.ofNat (x ||| y) := by
  have e : ∀ z : Nat, z < 4294967296 → (BitVec.ofInt (IntKind.bits .u32) (Int.ofNat z)).toNat = z := by
    intro z hz
    show (BitVec.ofInt 32 (Int.ofNat z)).toNat = z
    simp only [Int.ofNat_eq_natCast, BitVec.ofInt_natCast, BitVec.toNat_ofNat]
    exact Nat.mod_eq_of_lt (by simpa using hz)
  rw [BitVec.toNat_or, e x hx, e y hy]
  have := Nat.or_lt_two_pow (n := 32) (x := x) (y := y) (by simpa using hx) (by simpa using hy)
  have h2 := wrap32 (n := x ||| y)
  rw [Nat.mod_eq_of_lt (by simpa using this)] at h2
  exact h2
theorem or_low {n x y : Nat} (hy : y < 2 ^ n) : y ||| x * 2 ^ n = y + x * 2 ^ n := by
  have := Nat.two_pow_add_eq_or_of_lt (i := n) (b := y) hy x
  rw [Nat.or_comm, Nat.mul_comm, ← this, Nat.add_comm]
theorem pow_le31 {n : Nat} (h : n ≤ 31) : 2 ^ n ≤ 2147483648 := by
  have := Nat.pow_le_pow_right (n := 2) (by omega) h
  simpa using this
theorem pow_split {n : Nat} (h : n ≤ 32) : (4294967296 : Nat) = 2 ^ (32 - n) * 2 ^ n := by
  rw [← Nat.pow_add, show 32 - n + n = 32 by omega]
theorem shl_n {x n : Nat} (hx : x < 4294967296) (hn : n ≤ 31) : IntKind.wrap .u64 (Int.ofNat x * 2 ^ min (Int.ofNat n).toNat (IntKind.bits .u64)) = Int.ofNat (x * 2 ^ n) := by
  have e : min (Int.ofNat n).toNat (IntKind.bits .u64) = n := by
    show min n 64 = n
    omega
  have e2 : (2:Int) ^ n = Int.ofNat (2 ^ n) := by simp
  rw [e, e2]
  refine wrap_mul ?_
  have h1 := pow_le31 hn
  have : x * 2 ^ n ≤ 4294967295 * 2147483648 := Nat.mul_le_mul (by omega) h1
  omega
theorem shr_n {x n : Nat} (hn : n ≤ 31) : (Int.ofNat x).fdiv (2 ^ min (Int.ofNat n).toNat (IntKind.bits .u64)) = Int.ofNat (x / 2 ^ n) := by
  have e : min (Int.ofNat n).toNat (IntKind.bits .u64) = n := by
    show min n 64 = n
    omega
  rw [e, fdiv_pow]
theorem nn_need (n : Nat) : (0:Int) ≤ Int.ofNat n := by simp

/-! ### up -/
def upT (l : List Nat) (n i : Nat) : Nat := val l % BP i * 2 ^ n
theorem upT_succ {l : List Nat} (hl : Dig l) (n i : Nat) : upT l n (i + 1) = upT l n i + l.getD i 0 * 2 ^ n * BP i := by
  unfold upT
  rw [mod_BP_succ, ← getD_val hl, Nat.add_mul, Nat.add_comm, Nat.mul_comm (BP i), Nat.mul_assoc, Nat.mul_assoc, Nat.mul_comm (BP i)]
theorem upT_div (l : List Nat) (n i : Nat) : upT l n i / BP i < 2 ^ n := by
  unfold upT
  rw [Nat.div_lt_iff_lt_mul (BP_pos i), Nat.mul_comm (2 ^ n)]
  exact Nat.mul_lt_mul_of_pos_right (mod_BP_lt _ _) (Nat.pow_pos (by omega))
theorem up_low {l : List Nat} (hl : Dig l) {n : Nat} (hn : n ≤ 31) (i : Nat) : upT l n i / BP i % 4294967296 ||| l.getD i 0 * 2 ^ n % 4294967296 = upT l n (i + 1) / BP i % 4294967296 := by
  have h1 := upT_div l n i
  have h2 := pow_le31 hn
  have e : l.getD i 0 * 2 ^ n % 4294967296 = (l.getD i 0 % 2 ^ (32 - n)) * 2 ^ n := by
    rw [pow_split (n := n) (by omega), Nat.mul_mod_mul_right]
  rw [upT_succ hl, Nat.add_mul_div_right _ _ (BP_pos i), Nat.mod_eq_of_lt (a := upT l n i / BP i) (by omega), e, or_low h1, ← e]
  have h3 : l.getD i 0 * 2 ^ n % 4294967296 + 2 ^ n ≤ 4294967296 := by
    rw [e]
    have h4 : l.getD i 0 % 2 ^ (32 - n) + 1 ≤ 2 ^ (32 - n) := Nat.mod_lt _ (Nat.pow_pos (by omega))
    have h5 := Nat.mul_le_mul_right (2 ^ n) h4
    rw [← pow_split (n := n) (by omega), Nat.add_mul, Nat.one_mul] at h5
    exact h5
  generalize upT l n i / BP i = c at *
  omega
theorem up_high {l : List Nat} (hl : Dig l) {n : Nat} (hn : n ≤ 31) (i : Nat) : l.getD i 0 * 2 ^ n / 4294967296 = upT l n (i + 1) / BP (i + 1) ∧ l.getD i 0 * 2 ^ n / 4294967296 < 4294967296 := by
  have h1 := upT_div l n i
  have h2 := pow_le31 hn
  have hx := hl.getD i
  have h3 : l.getD i 0 * 2 ^ n ≤ 4294967295 * 2147483648 := Nat.mul_le_mul (by omega) h2
  rw [div_BP_succ, upT_succ hl, Nat.add_mul_div_right _ _ (BP_pos i)]
  have e : l.getD i 0 * 2 ^ n % 4294967296 = (l.getD i 0 % 2 ^ (32 - n)) * 2 ^ n := by
    rw [pow_split (n := n) (by omega), Nat.mul_mod_mul_right]
  have h3 : l.getD i 0 * 2 ^ n % 4294967296 + 2 ^ n ≤ 4294967296 := by
    rw [e]
    have h4 : l.getD i 0 % 2 ^ (32 - n) + 1 ≤ 2 ^ (32 - n) := Nat.mod_lt _ (Nat.pow_pos (by omega))
    have h5 := Nat.mul_le_mul_right (2 ^ n) h4
    rw [← pow_split (n := n) (by omega), Nat.add_mul, Nat.one_mul] at h5
    exact h5
  generalize upT l n i / BP i = c at *
  omega
def upN (l : List Nat) : Nat := l.length + 1
def upInv (l : List Nat) (n i : Nat) : St :=
  lay 41 [(0, rowW l), (1, nat n), (5, .slc 0 0 (upN l) (upN l)), (13, rowW l), (14, nat l.length), (15, nat i)] [(0, cel (upN l) (fun j => upT l n i / BP j % 4294967296))]
theorem up_round (hG : Steady G) {l : List Nat} (hl : Dig l) {n i : Nat} (hn : n ≤ 31) (hi : i < l.length) (hb : l.length < 2 ^ 60) :
    Goes Tryz.prog G 0 (loopOf Tryz.f234 0) (upInv l n i) .normal (upInv l n (i + 1)) := by
  have hx := hl.getD i
  have hN : i < upN l := by unfold upN; omega
  have hN2 : i + 1 < upN l := by unfold upN; omega
  obtain ⟨g1, g2⟩ := up_high hl hn i
  have e : upInv l n (i + 1) = lay 41 [(0, rowW l), (1, nat n), (5, .slc 0 0 (upN l) (upN l)), (13, rowW l), (14, nat l.length), (15, nat (i + 1))]
      [(0, splice (splice (cel (upN l) (fun j => upT l n i / BP j % 4294967296)) i [u32 (upT l n (i + 1) / BP i % 4294967296)]) (i + 1) [u32 (l.getD i 0 * 2 ^ n / 4294967296 % 4294967296)])] := by
    rw [splice_cel _ _ hN, splice_cel _ _ hN2]
    unfold upInv
    congr 3
    refine cel_congr fun j _ => ?_
    by_cases hj : j = i + 1
    · subst hj; rw [if_pos rfl, g1]
    · rw [if_neg hj]
      by_cases hj2 : j = i
      · subst hj2; rw [if_pos rfl]
      · rw [if_neg hj2]
        rcases Nat.lt_or_ge j i with h | h
        · rw [upT_succ hl]
          have e1 : i = j + (i - j - 1) + 1 := by omega
          have e2 : upT l n i + l.getD i 0 * 2 ^ n * BP i = upT l n i + (l.getD i 0 * 2 ^ n * BP (i - j - 1) * 4294967296) * BP j := by
            have : BP i = 4294967296 * (BP j * BP (i - j - 1)) := by conv => lhs; rw [e1, BP_succ, BP_add]
            rw [this]
            simp only [Nat.mul_assoc, Nat.mul_comm, Nat.mul_left_comm]
          rw [e2, Nat.add_mul_div_right _ _ (BP_pos j)]; omega
        · have h1 : i + 2 ≤ j := by omega
          have h3 : upT l n (i + 1) < BP j := by
            have h4 := g2
            rw [g1, Nat.div_lt_iff_lt_mul (BP_pos _), ← BP_succ] at h4
            exact Nat.lt_of_lt_of_le h4 (BP_mono h1)
          have h5 : upT l n i ≤ upT l n (i + 1) := by rw [upT_succ hl]; exact Nat.le_add_right _ _
          rw [Nat.div_eq_of_lt h3, Nat.div_eq_of_lt (by omega)]
  rw [e]
  have hlen : ∀ v, (splice (cel (upN l) (fun j => upT l n i / BP j % 4294967296)) i [u32 v]).length = upN l := fun v => by rw [splice_cel _ _ hN, cel_len]
  have hy : l.getD i 0 * 2 ^ n < 18446744073709551616 := by
    have : l.getD i 0 * 2 ^ n ≤ 4294967295 * 2147483648 := Nat.mul_le_mul (by omega) (pow_le31 hn)
    omega
  exact Goes.of_run hG (ro := []) (m := 30) (lay_len ..)
    [.eq 16 (eqB (lt_true hi)), .prop (at_need hi), .prop (load_need hi), .eq 19 (headD_need hi), .eq 21 (eq64 (conv64 hx)), .prop (nn_need n), .eq 23 (eq64 (shl_n hx hn)),
     .prop (ix_need hN), .eq 26 (ptr_at 0 i), .prop (p := 0 < 1 ∧ i + 1 ≤ (cel (upN l) (fun j => upT l n i / BP j % 4294967296)).length) (by rw [cel_len]; omega),
     .eq 27 (d := ((cel (upN l) (fun j => upT l n i / BP j % 4294967296)).drop i).headD .any) (d' := u32 (upT l n i / BP i % 4294967296)) (cel_getD hN),
     .eq 29 (eq32 (conv32 (l.getD i 0 * 2 ^ n))),
     .eq 30 (eq32 (x := IntKind.wrap .u32 (((BitVec.ofInt (IntKind.bits .u32) (Int.ofNat (upT l n i / BP i % 4294967296)) ||| BitVec.ofInt (IntKind.bits .u32) (Int.ofNat (l.getD i 0 * 2 ^ n % 4294967296))).toNat : Nat) : Int))
        (y := Int.ofNat (upT l n (i + 1) / BP i % 4294967296)) (by rw [or_bits32 (Nat.mod_lt _ (by omega)) (Nat.mod_lt _ (by omega)), up_low hl hn])),
     .prop (ix_need hN), .eq 31 (ptr_at 0 i), .prop (p := i + 1 ≤ (cel (upN l) (fun j => upT l n i / BP j % 4294967296)).length) (by rw [cel_len]; omega),
     .eq 34 (eqS (nat_succ (i := i) (by omega))), .eq 36 (eq64 (shr32 (l.getD i 0 * 2 ^ n))), .eq 37 (eq32 (conv32 (l.getD i 0 * 2 ^ n / 4294967296))), .prop (ix_need hN2), .eq 38 (ptr_at 0 (i + 1)),
     .prop (p := i + 1 + 1 ≤ (splice (cel (upN l) (fun j => upT l n i / BP j % 4294967296)) i [u32 (upT l n (i + 1) / BP i % 4294967296)]).length) (by rw [hlen]; omega),
     .eq 39 (eqS (nat_succ (i := i) (by omega)))] (by kernel_rfl)
theorem up_last (hG : Steady G) {l : List Nat} {n : Nat} : Goes Tryz.prog G 0 (loopOf Tryz.f234 0) (upInv l n l.length) (.exit 0) (upInv l n l.length) :=
  Goes.of_run hG (ro := []) (m := 30) (lay_len ..) [.eq 16 (eqB (lt_false (Nat.le_refl l.length)))] (by kernel_rfl)
theorem up_loop (hG : Steady G) {l : List Nat} (hl : Dig l) {n : Nat} (hn : n ≤ 31) (hb : l.length < 2 ^ 60) :
    Abs Tryz.prog G 41 0 (.loop (loopOf Tryz.f234 0))
      (lay 41 [(0, rowW l), (1, nat n), (5, .slc 0 0 (upN l) (upN l)), (13, rowW l), (14, nat l.length), (15, nat 0)] [(0, List.replicate (upN l) (u32 0))]) (.exit 0) (upInv l n l.length) := by
  have h := Abs.count (upInv l n) l.length (fun k => lay_len _ _ _) (by simp) (fun i hi => up_round hG hl hn hi hb) (up_last hG)
  have e : upInv l n 0 = lay 41 [(0, rowW l), (1, nat n), (5, .slc 0 0 (upN l) (upN l)), (13, rowW l), (14, nat l.length), (15, nat 0)] [(0, List.replicate (upN l) (u32 0))] := by
    rw [cel_zero]
    unfold upInv upT
    rw [BP_zero, Nat.mod_one, Nat.zero_mul]
    congr 3
    exact cel_congr fun j _ => by rw [Nat.zero_div]
  rw [e] at h; exact h
/-- Words shifted up, over a new row. -/
theorem up_spec (hG : Steady G) {l : List Nat} (hl : Dig l) {n : Nat} (hn : n ≤ 31) (h1 : l.length ≤ 2 ^ 36) :
    SpecN Tryz.prog G 234 [rowW l, nat n] (l.length + 1) ((digs (l.length + 1) (val l * 2 ^ n)).map u32) := by
  have h36 : (2:Nat) ^ 36 = 68719476736 := by decide
  have h40 : (2:Nat) ^ 40 = 1099511627776 := by decide
  have h60 : (2:Nat) ^ 60 = 1152921504606846976 := by decide
  have hN : upN l ≤ 2 ^ 40 := by unfold upN; omega
  have hT : upT l n l.length = val l * 2 ^ n := by unfold upT; rw [Nat.mod_eq_of_lt (val_lt hl)]
  rw [← cel_digs, ← hT]
  exact SpecN.of_run hG Tryz.func234 (k := (Tryz.f234.body).getD .skip) rfl (t := 4) (ro := []) (m := 30) (e := .ret) (b := 0) (Nat.le_of_ble_eq_true rfl) rfl
    [.eq 11 (eqS (nat_succ (i := l.length) (by omega))), .prop (make_need hN), .code (up_loop hG hl hn (by omega))] (by kernel_rfl) (.inr rfl)

/-! ### down -/
theorem down_dig {l : List Nat} (hl : Dig l) {n : Nat} (hn : n ≤ 31) (i : Nat) : (l.getD i 0 + l.getD (i + 1) 0 * 4294967296) / 2 ^ n % 4294967296 = val l / 2 ^ n / BP i % 4294967296 := by
  have hp : 0 < 2 ^ n := Nat.pow_pos (by omega)
  rw [getD_val hl, getD_val hl, div_BP_succ, Nat.div_div_eq_div_mul (val l) (2 ^ n), Nat.mul_comm (2 ^ n), ← Nat.div_div_eq_div_mul]
  generalize val l / BP i = A
  have e : A = 2 ^ n * (4294967296 * (2 ^ (32 - n) * (A / 4294967296 / 4294967296))) + (A % 4294967296 + A / 4294967296 % 4294967296 * 4294967296) := by
    have h1 : 2 ^ n * (4294967296 * (2 ^ (32 - n) * (A / 4294967296 / 4294967296))) = 4294967296 * (4294967296 * (A / 4294967296 / 4294967296)) := by
      have h2 : 4294967296 * (2 ^ (32 - n) * (A / 4294967296 / 4294967296)) = 2 ^ (32 - n) * (4294967296 * (A / 4294967296 / 4294967296)) := Nat.mul_left_comm _ _ _
      rw [h2, ← Nat.mul_assoc, Nat.mul_comm (2 ^ n), ← pow_split (n := n) (by omega)]
    rw [h1]; omega
  conv => rhs; rw [e]
  rw [add_mul_div_pos hp]; omega
def dowF (a n i j : Nat) : Nat := if j < i then a / 2 ^ n / BP j % 4294967296 else 0
def dowInv (l : List Nat) (n i : Nat) : St :=
  lay 35 [(0, rowW l), (1, nat n), (5, .slc 0 0 l.length l.length), (11, nat l.length), (12, nat i)] [(0, cel l.length (dowF (val l) n i))]
theorem dow_round (hG : Steady G) {l : List Nat} (hl : Dig l) {n i : Nat} (hn : n ≤ 31) (hi : i < l.length) (hb : l.length < 2 ^ 60) :
    Goes Tryz.prog G 0 (loopOf Tryz.f237 0) (dowInv l n i) .normal (dowInv l n (i + 1)) := by
  have hx := hl.getD i
  have hy := hl.getD (i + 1)
  have e : dowInv l n (i + 1) = lay 35 [(0, rowW l), (1, nat n), (5, .slc 0 0 l.length l.length), (11, nat l.length), (12, nat (i + 1))]
      [(0, splice (cel l.length (dowF (val l) n i)) i [u32 (val l / 2 ^ n / BP i % 4294967296)])] := by
    unfold dowInv
    have := fillF hi (fun j => val l / 2 ^ n / BP j % 4294967296)
    have e2 : dowF (val l) n i = fun j => if j < i then val l / 2 ^ n / BP j % 4294967296 else 0 := rfl
    rw [e2, this]; rfl
  rw [e]
  exact Goes.of_run hG (ro := []) (m := 30) (lay_len ..)
    [.eq 13 (eqB (lt_true hi)), .prop (at_need hi), .prop (load_need hi), .eq 20 (headD_need hi), .eq 21 (eq64 (conv64 hx)), .eq 24 (eqS (nat_succ (i := i) (by omega))), .call (word_spec hG l hl (i + 1)), .eq 26 (eq64 (shl32 hy)),
     .eq 27 (eq64 (x := IntKind.wrap .u64 (((BitVec.ofInt (IntKind.bits .u64) (Int.ofNat (l.getD i 0)) ||| BitVec.ofInt (IntKind.bits .u64) (Int.ofNat (l.getD (i + 1) 0 * 4294967296))).toNat : Nat) : Int))
        (y := Int.ofNat (l.getD i 0 + l.getD (i + 1) 0 * 4294967296)) (by rw [or_bits (by omega) (by omega), Nat.or_comm, or_add hx, Nat.add_comm])),
     .prop (nn_need n), .eq 29 (eq64 (shr_n (x := l.getD i 0 + l.getD (i + 1) 0 * 4294967296) hn)), .eq 30 (eq32 (x := IntKind.wrap .u32 (Int.ofNat ((l.getD i 0 + l.getD (i + 1) 0 * 4294967296) / 2 ^ n))) (y := Int.ofNat (val l / 2 ^ n / BP i % 4294967296)) (by rw [conv32, down_dig hl hn])),
     .prop (ix_need hi), .eq 31 (ptr_at 0 i), .prop (p := i + 1 ≤ (cel l.length (dowF (val l) n i)).length) (by rw [cel_len]; omega), .eq 32 (eqS (nat_succ (i := i) (by omega)))] (by kernel_rfl)
theorem dow_last (hG : Steady G) {l : List Nat} {n : Nat} : Goes Tryz.prog G 0 (loopOf Tryz.f237 0) (dowInv l n l.length) (.exit 0) (dowInv l n l.length) :=
  Goes.of_run hG (ro := []) (m := 30) (lay_len ..) [.eq 13 (eqB (lt_false (Nat.le_refl l.length)))] (by kernel_rfl)
theorem dow_loop (hG : Steady G) {l : List Nat} (hl : Dig l) {n : Nat} (hn : n ≤ 31) (hb : l.length < 2 ^ 60) :
    Abs Tryz.prog G 35 0 (.loop (loopOf Tryz.f237 0))
      (lay 35 [(0, rowW l), (1, nat n), (5, .slc 0 0 l.length l.length), (11, nat l.length), (12, nat 0)] [(0, List.replicate l.length (u32 0))]) (.exit 0) (dowInv l n l.length) := by
  have h := Abs.count (dowInv l n) l.length (fun k => lay_len _ _ _) (by simp) (fun i hi => dow_round hG hl hn hi hb) (dow_last hG)
  have e : dowInv l n 0 = lay 35 [(0, rowW l), (1, nat n), (5, .slc 0 0 l.length l.length), (11, nat l.length), (12, nat 0)] [(0, List.replicate l.length (u32 0))] := by
    rw [cel_zero]; rfl
  rw [e] at h; exact h
/-- Words shifted down. -/
theorem down_spec (hG : Steady G) {l : List Nat} (hl : Dig l) {n : Nat} (hn : n ≤ 31) (h1 : l.length ≤ 2 ^ 37) :
    Spec Tryz.prog G 237 [rowW l, nat n] (rowW (words (val l / 2 ^ n))) := by
  have h37 : (2:Nat) ^ 37 = 137438953472 := by decide
  have h40 : (2:Nat) ^ 40 = 1099511627776 := by decide
  have h60 : (2:Nat) ^ 60 = 1152921504606846976 := by decide
  have hN : l.length ≤ 2 ^ 40 := by omega
  have hfit : val l / 2 ^ n < BP l.length := Nat.lt_of_le_of_lt (Nat.div_le_self _ _) (val_lt hl)
  have ht := trim_spec (G := G) hG (l := digs l.length (val l / 2 ^ n)) (digs_dig _ _) (by rw [digs_len]; exact hN)
  rw [words_digs hfit] at ht
  refine Spec.of_run hG Tryz.func237 (ro := []) (m := 30) (args := [rowW l, nat n])
    [.prop (make_need hN), .code (dow_loop hG hl hn (by omega)), .freeze 0,
     .eq 33 (d := D.row l.length false (((cel l.length (dowF (val l) n l.length)).drop 0).take l.length)) (d' := rowW (digs l.length (val l / 2 ^ n))) ?_, .call ht] (by kernel_rfl)
  rw [← cel_row]
  congr 3
  exact cel_congr fun j hj => by unfold dowF; rw [if_pos hj]
end Lw

namespace Lw
open Go Go.RowKit Go.Proofs

variable {G : World → Prop}

/-! ### remove -/
theorem ptr_off (b j i : Nat) : D.ptr b (j + (Int.ofNat i).toNat * 1) = .ptr b (j + i) := by simp
/-- Cells of which some, from j on, are the digits of Z. -/
def parF (F : Nat → Nat) (j Z r idx : Nat) : Nat := if j ≤ idx ∧ idx < j + r then Z / BP (idx - j) % 4294967296 else F idx
theorem parF_zero (F : Nat → Nat) (j Z : Nat) : parF F j Z 0 = F := by funext idx; unfold parF; rw [if_neg (by omega)]
theorem parF_next {N : Nat} {F : Nat → Nat} {j Z r : Nat} (h : j + r < N) : splice (cel N (parF F j Z r)) (j + r) [u32 (Z / BP r % 4294967296)] = cel N (parF F j Z (r + 1)) := by
  rw [splice_cel _ _ h]
  refine cel_congr fun i _ => ?_
  unfold parF
  by_cases hi : i = j + r
  · subst hi; rw [if_pos rfl, if_pos (by omega), show j + r - j = r by omega]
  · rw [if_neg hi]
    by_cases h2 : j ≤ i ∧ i < j + r
    · rw [if_pos h2, if_pos (by omega)]
    · rw [if_neg h2, if_neg (by omega)]
theorem parF_at {F : Nat → Nat} {j Z r : Nat} : parF F j Z r (j + r) = F (j + r) := by unfold parF; rw [if_neg (by omega)]

theorem cSub_add {W b k r : Nat} (h : r ≤ k) : cSub (W + BP k) b r = cSub W b r := by
  unfold cSub
  have e : (W + BP k) % BP r = W % BP r := by
    rw [show k = (k - r) + r by omega, BP_add, Nat.mul_comm, Nat.add_mul_mod_self_left]
  rw [e]
theorem dig_add {W k r : Nat} (h : r < k) : (W + BP k) / BP r % 4294967296 = W / BP r % 4294967296 := by
  have e : BP k = (BP (k - r - 1) * 4294967296) * BP r := by
    conv => lhs; rw [show k = (r + (k - r - 1)) + 1 by omega, BP_succ, BP_add]
    simp only [Nat.mul_assoc, Nat.mul_comm]
  rw [e, Nat.add_mul_div_right _ _ (BP_pos r)]; omega

structure RemIn where
  N : Nat
  F : Nat → Nat
  j : Nat
  k : Nat
  cap : Nat
  qs : List D
  v : List Nat
  n : Nat
  W : Nat
def RemIn.ok (p : RemIn) : Prop := Dig p.v ∧ p.n < 4294967296 ∧ p.j + p.k ≤ p.N ∧ p.N < 2 ^ 60 ∧ (∀ i, i < p.k → p.F (p.j + i) = p.W / BP i % 4294967296) ∧ p.n * val p.v ≤ BP p.k ∧ p.W < BP p.k
def RemIn.Z (p : RemIn) : Nat := p.W + BP p.k - p.n * val p.v
def remInv (p : RemIn) (r : Nat) : St :=
  lay 46 [(0, .slc 0 p.j p.k p.cap), (1, rowW p.v), (2, u64 p.n), (7, u64 (cMul 0 p.n (val p.v) r)), (8, u64 (cSub p.W (p.n * val p.v) r)), (12, nat p.k), (13, nat r)] [(0, cel p.N (parF p.F p.j p.Z r)), (1, p.qs)]
theorem rem_round (hG : Steady G) {p : RemIn} (hp : p.ok) {r : Nat} (hr : r < p.k) :
    Goes Tryz.prog G 2 (loopOf Tryz.f235 0) (remInv p r) .normal (remInv p (r + 1)) := by
  obtain ⟨hv, hn, hjk, hN, hF, hb, hW⟩ := hp
  have h60 : (2:Nat) ^ 60 = 1152921504606846976 := by decide
  have hjr : p.j + r < p.N := by omega
  have hy := hv.getD r
  have hs := cMul_step 0 p.n (val p.v) r
  have hd := cMul_dig 0 p.n (val p.v) r
  rw [← getD_val hv, Nat.zero_div, Nat.zero_mod] at hs hd
  simp only [Nat.add_zero] at hs hd
  rw [Nat.zero_add] at hd
  have hc := cMul_lt 0 (val p.v) r hn
  have hny := mul_lt64 hn hy
  have hS := cSub_step p.W (p.n * val p.v) r
  have hD := cSub_dig (a := p.W + BP p.k) (b := p.n * val p.v) (by omega) r
  rw [dig_add hr, cSub_add (Nat.le_of_lt hr)] at hD
  have hcs := cSub_le p.W (p.n * val p.v) r
  have hw : p.W / BP r % 4294967296 < 4294967296 := Nat.mod_lt _ (by omega)
  have hnv : p.n * val p.v / BP r % 4294967296 < 4294967296 := Nat.mod_lt _ (by omega)
  have hcell : parF p.F p.j p.Z r (p.j + r) = p.W / BP r % 4294967296 := by rw [parF_at, hF r hr]
  have e : remInv p (r + 1) = lay 46 [(0, .slc 0 p.j p.k p.cap), (1, rowW p.v), (2, u64 p.n), (7, u64 (cMul 0 p.n (val p.v) (r + 1))), (8, u64 (cSub p.W (p.n * val p.v) (r + 1))), (12, nat p.k), (13, nat (r + 1))]
      [(0, splice (cel p.N (parF p.F p.j p.Z r)) (p.j + r) [u32 (p.Z / BP r % 4294967296)]), (1, p.qs)] := by
    rw [parF_next hjr]; rfl
  rw [e]
  exact Goes.of_run hG (ro := []) (m := 30) (lay_len ..)
    [.eq 14 (eqB (lt_true hr)), .call (word_spec hG p.v hv r), .eq 21 (eq64 (wrap_mul (x := p.n) (y := p.v.getD r 0) (by omega))), .eq 22 (eq64 (wrap_add (x := cMul 0 p.n (val p.v) r) (y := p.n * p.v.getD r 0) (by omega))),
     .prop (ix_need hr), .eq 25 (ptr_off 0 p.j r), .prop (p := 0 < 1 ∧ p.j + r + 1 ≤ (cel p.N (parF p.F p.j p.Z r)).length) (by rw [cel_len]; omega),
     .eq 26 (d := ((cel p.N (parF p.F p.j p.Z r)).drop (p.j + r)).headD .any) (d' := u32 (p.W / BP r % 4294967296)) (by rw [cel_getD hjr, hcell]), .eq 27 (eq64 (conv64 hw)),
     .eq 29 (eq32 (x := IntKind.wrap .u32 (Int.ofNat (cMul 0 p.n (val p.v) r + p.n * p.v.getD r 0))) (y := Int.ofNat (p.n * val p.v / BP r % 4294967296)) (by rw [conv32, hd])), .eq 30 (eq64 (conv64 hnv)),
     .eq 31 (eq64 (wrap_sub (x := p.W / BP r % 4294967296) (y := p.n * val p.v / BP r % 4294967296) (by omega))),
     .eq 33 (eq64 (wrap_sub (x := subw (p.W / BP r % 4294967296) (p.n * val p.v / BP r % 4294967296)) (y := cSub p.W (p.n * val p.v) r) (by omega))),
     .eq 37 (eq32 (x := IntKind.wrap .u32 (Int.ofNat (subw (subw (p.W / BP r % 4294967296) (p.n * val p.v / BP r % 4294967296)) (cSub p.W (p.n * val p.v) r)))) (y := Int.ofNat (p.Z / BP r % 4294967296)) (by
        rw [show Int.ofNat (p.Z / BP r % 4294967296) = (((p.W + BP p.k - p.n * val p.v) / BP r % 4294967296 : Nat) : Int) from rfl, ← hD, ← subw_lo hw hnv hcs]; exact wrap32)),
     .prop (ix_need hr), .eq 38 (ptr_off 0 p.j r), .prop (p := p.j + r + 1 ≤ (cel p.N (parF p.F p.j p.Z r)).length) (by rw [cel_len]; omega),
     .eq 40 (eq64 (x := (Int.ofNat (subw (subw (p.W / BP r % 4294967296) (p.n * val p.v / BP r % 4294967296)) (cSub p.W (p.n * val p.v) r))).fdiv (2 ^ min (Int.toNat 63) (IntKind.bits .u64))) (y := Int.ofNat (cSub p.W (p.n * val p.v) (r + 1)))
        (by rw [shr63, subw_hi hw hnv hcs, ← hS])),
     .eq 42 (eq64 (x := (Int.ofNat (cMul 0 p.n (val p.v) r + p.n * p.v.getD r 0)).fdiv (2 ^ min (Int.toNat 32) (IntKind.bits .u64))) (y := Int.ofNat (cMul 0 p.n (val p.v) (r + 1))) (by rw [shr32, hs])),
     .eq 43 (eqS (nat_succ (i := r) (by omega)))] (by kernel_rfl)
theorem rem_last (hG : Steady G) {p : RemIn} : Goes Tryz.prog G 2 (loopOf Tryz.f235 0) (remInv p p.k) (.exit 0) (remInv p p.k) :=
  Goes.of_run hG (ro := []) (m := 30) (lay_len ..) [.eq 14 (eqB (lt_false (Nat.le_refl p.k)))] (by kernel_rfl)
theorem rem_loop (hG : Steady G) {p : RemIn} (hp : p.ok) :
    Abs Tryz.prog G 46 2 (.loop (loopOf Tryz.f235 0))
      (lay 46 [(0, .slc 0 p.j p.k p.cap), (1, rowW p.v), (2, u64 p.n), (7, u64 0), (8, u64 0), (12, nat p.k), (13, nat 0)] [(0, cel p.N p.F), (1, p.qs)]) (.exit 0) (remInv p p.k) := by
  have h := Abs.count (remInv p) p.k (fun k => lay_len _ _ _) (by simp) (fun i hi => rem_round hG hp hi) (rem_last hG)
  have e : remInv p 0 = lay 46 [(0, .slc 0 p.j p.k p.cap), (1, rowW p.v), (2, u64 p.n), (7, u64 0), (8, u64 0), (12, nat p.k), (13, nat 0)] [(0, cel p.N p.F), (1, p.qs)] := by
    unfold remInv; rw [parF_zero, cMul_zero, cSub_zero]
  rw [e] at h; exact h
theorem rem_says {p : RemIn} (hp : p.ok) (hlt : p.n * val p.v < BP p.k) : (Int.ofNat (cSub p.W (p.n * val p.v) p.k) == 1) = decide (p.W < p.n * val p.v) := by
  obtain ⟨-, -, -, -, -, -, hW⟩ := hp
  unfold cSub
  rw [Nat.mod_eq_of_lt hW, Nat.mod_eq_of_lt hlt]
  split
  · rename_i h; simp [h]
  · rename_i h; simp [h]

/-! ### back -/
structure BackIn where
  N : Nat
  F : Nat → Nat
  j : Nat
  k : Nat
  cap : Nat
  qs : List D
  v : List Nat
  Z : Nat
def BackIn.ok (p : BackIn) : Prop := Dig p.v ∧ p.j + p.k ≤ p.N ∧ p.N < 2 ^ 60 ∧ (∀ i, i < p.k → p.F (p.j + i) = p.Z / BP i % 4294967296)
def backInv (p : BackIn) (r : Nat) : St :=
  lay 30 [(0, .slc 0 p.j p.k p.cap), (1, rowW p.v), (4, u64 (cAdd p.Z (val p.v) r)), (7, nat p.k), (8, nat r)] [(0, cel p.N (parF p.F p.j (p.Z + val p.v) r)), (1, p.qs)]
theorem back_round (hG : Steady G) {p : BackIn} (hp : p.ok) {r : Nat} (hr : r < p.k) :
    Goes Tryz.prog G 2 (loopOf Tryz.f236 0) (backInv p r) .normal (backInv p (r + 1)) := by
  obtain ⟨hv, hjk, hN, hF⟩ := hp
  have h60 : (2:Nat) ^ 60 = 1152921504606846976 := by decide
  have hjr : p.j + r < p.N := by omega
  have hy := hv.getD r
  have hs := cAdd_step p.Z (val p.v) r
  have hd := cAdd_dig p.Z (val p.v) r
  rw [← getD_val hv] at hs hd
  have hc := cAdd_le p.Z (val p.v) r
  have hw : p.Z / BP r % 4294967296 < 4294967296 := Nat.mod_lt _ (by omega)
  have hcell : parF p.F p.j (p.Z + val p.v) r (p.j + r) = p.Z / BP r % 4294967296 := by rw [parF_at, hF r hr]
  have e : backInv p (r + 1) = lay 30 [(0, .slc 0 p.j p.k p.cap), (1, rowW p.v), (4, u64 (cAdd p.Z (val p.v) (r + 1))), (7, nat p.k), (8, nat (r + 1))]
      [(0, splice (cel p.N (parF p.F p.j (p.Z + val p.v) r)) (p.j + r) [u32 ((p.Z + val p.v) / BP r % 4294967296)]), (1, p.qs)] := by
    rw [parF_next hjr]; rfl
  rw [e]
  exact Goes.of_run hG (ro := []) (m := 30) (lay_len ..)
    [.eq 9 (eqB (lt_true hr)), .prop (ix_need hr), .eq 14 (ptr_off 0 p.j r), .prop (p := 0 < 1 ∧ p.j + r + 1 ≤ (cel p.N (parF p.F p.j (p.Z + val p.v) r)).length) (by rw [cel_len]; omega),
     .eq 15 (d := ((cel p.N (parF p.F p.j (p.Z + val p.v) r)).drop (p.j + r)).headD .any) (d' := u32 (p.Z / BP r % 4294967296)) (by rw [cel_getD hjr, hcell]), .eq 16 (eq64 (conv64 hw)), .call (word_spec hG p.v hv r),
     .eq 20 (eq64 (wrap_add (x := p.Z / BP r % 4294967296) (y := p.v.getD r 0) (by omega))), .eq 21 (eq64 (wrap_add (x := cAdd p.Z (val p.v) r) (y := p.Z / BP r % 4294967296 + p.v.getD r 0) (by omega))),
     .eq 25 (eq32 (x := IntKind.wrap .u32 (Int.ofNat (cAdd p.Z (val p.v) r + (p.Z / BP r % 4294967296 + p.v.getD r 0)))) (y := Int.ofNat ((p.Z + val p.v) / BP r % 4294967296)) (by rw [conv32, hd])),
     .prop (ix_need hr), .eq 26 (ptr_off 0 p.j r), .prop (p := p.j + r + 1 ≤ (cel p.N (parF p.F p.j (p.Z + val p.v) r)).length) (by rw [cel_len]; omega),
     .eq 28 (eq64 (x := (Int.ofNat (cAdd p.Z (val p.v) r + (p.Z / BP r % 4294967296 + p.v.getD r 0))).fdiv (2 ^ min (Int.toNat 32) (IntKind.bits .u64))) (y := Int.ofNat (cAdd p.Z (val p.v) (r + 1))) (by rw [shr32, hs])),
     .eq 29 (eqS (nat_succ (i := r) (by omega)))] (by kernel_rfl)
theorem back_last (hG : Steady G) {p : BackIn} : Goes Tryz.prog G 2 (loopOf Tryz.f236 0) (backInv p p.k) (.exit 0) (backInv p p.k) :=
  Goes.of_run hG (ro := []) (m := 30) (lay_len ..) [.eq 9 (eqB (lt_false (Nat.le_refl p.k)))] (by kernel_rfl)
theorem back_loop (hG : Steady G) {p : BackIn} (hp : p.ok) :
    Abs Tryz.prog G 30 2 (.loop (loopOf Tryz.f236 0))
      (lay 30 [(0, .slc 0 p.j p.k p.cap), (1, rowW p.v), (4, u64 0), (7, nat p.k), (8, nat 0)] [(0, cel p.N p.F), (1, p.qs)]) (.exit 0) (backInv p p.k) := by
  have h := Abs.count (backInv p) p.k (fun k => lay_len _ _ _) (by simp) (fun i hi => back_round hG hp hi) (back_last hG)
  have e : backInv p 0 = lay 30 [(0, .slc 0 p.j p.k p.cap), (1, rowW p.v), (4, u64 0), (7, nat p.k), (8, nat 0)] [(0, cel p.N p.F), (1, p.qs)] := by
    unfold backInv; rw [parF_zero, cAdd_zero]
  rw [e] at h; exact h
end Lw
