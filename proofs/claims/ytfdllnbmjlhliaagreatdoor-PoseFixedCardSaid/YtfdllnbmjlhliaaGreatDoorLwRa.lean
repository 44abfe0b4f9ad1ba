/- Fractions as the program keeps them, and the numbers that they stand for. No condition. -/
import Derived.Test.YtfdllnbmjlhliaaGreatDoorLwZj
namespace Lw
open Go Go.RowKit

/-- The fields of a fraction. -/
structure Raw where
  s : Bool
  n : List Nat
  d : List Nat
def Raw.dat (r : Raw) : D := .agg [bool r.s, rowW r.n, rowW r.d]
def Raw.ok (k : Nat) (r : Raw) : Prop := Dig r.n ∧ Dig r.d ∧ r.n.length ≤ k ∧ r.d.length ≤ k ∧ 0 < k
def Raw.good (r : Raw) : Prop := r.n ≠ [] ∧ r.d ≠ [] ∧ r.n = words (val r.n) ∧ r.d = words (val r.d) ∧ Nat.gcd (val r.n) (val r.d) = 1
instance (r : Raw) : Decidable r.good := by unfold Raw.good; infer_instance
def Raw.valid (r : Raw) : Bool := if r.n = [] ∧ r.d = [] then !r.s else decide r.good
/-- The number. -/
def Raw.q (r : Raw) : Rat := if r.good then mkRat (mkI r.s (val r.n)) (val r.d) else 0
def rawOf (q : Rat) : Raw := if q.num = 0 then ⟨false, [], []⟩ else ⟨decide (q.num < 0), words q.num.natAbs, words q.den⟩
def F (q : Rat) : D := (rawOf q).dat
def IsQ (k : Nat) (x : D) (q : Rat) : Prop := ∃ r : Raw, x = r.dat ∧ r.ok k ∧ r.q = q
def SzQ (k : Nat) (q : Rat) : Prop := (words q.num.natAbs).length ≤ k ∧ (words q.den).length ≤ k ∧ 0 < k

theorem words_some {n : Nat} (h : 0 < n) : words n ≠ [] := fun e => by
  have := val_words n
  rw [e] at this
  have h0 : val [] = 0 := rfl
  omega
theorem mkI_abs (s : Bool) (n : Nat) : (mkI s n).natAbs = n := by cases s <;> simp [mkI]
theorem Raw.good_den {r : Raw} (h : r.good) : 0 < val r.d := by
  rcases Nat.eq_zero_or_pos (val r.d) with e | e
  · obtain ⟨-, h2, -, h4, -⟩ := h
    rw [e] at h4; exact absurd h4 h2
  · exact e
theorem Raw.good_num {r : Raw} (h : r.good) : 0 < val r.n := by
  rcases Nat.eq_zero_or_pos (val r.n) with e | e
  · obtain ⟨h1, -, h3, -, -⟩ := h
    rw [e] at h3; exact absurd h3 h1
  · exact e
theorem Raw.q_parts {r : Raw} (h : r.good) : r.q.num = mkI r.s (val r.n) ∧ r.q.den = val r.d := by
  have hd := Raw.good_den h
  obtain ⟨-, -, -, -, h5⟩ := id h
  unfold Raw.q
  rw [if_pos h, Rat.num_mkRat, Rat.den_mkRat, if_neg (by omega), if_neg (by omega), mkI_abs, Nat.gcd_comm, h5]
  exact ⟨Int.ediv_one _, Nat.div_one _⟩
theorem Raw.q_zero {r : Raw} (h : ¬ r.good) : r.q = 0 := by unfold Raw.q; rw [if_neg h]
theorem rawOf_good {q : Rat} (h : q.num ≠ 0) : (rawOf q).good := by
  unfold rawOf
  rw [if_neg h]
  refine ⟨words_some (by omega), words_some q.den_pos, ?_, ?_, ?_⟩
  · show words _ = words (val (words _)); rw [val_words]
  · show words _ = words (val (words _)); rw [val_words]
  · show Nat.gcd (val (words _)) (val (words _)) = 1
    rw [val_words, val_words]; exact q.reduced
theorem mkI_num (i : Int) : mkI (decide (i < 0)) i.natAbs = i := by
  by_cases h : i < 0
  · rw [decide_eq_true h]; show -(i.natAbs : Int) = i; omega
  · rw [decide_eq_false h]; show (i.natAbs : Int) = i; omega
theorem rawOf_q (q : Rat) : (rawOf q).q = q := by
  by_cases h : q.num = 0
  · have : q = 0 := Rat.num_eq_zero.1 h
    subst this
    rfl
  · have hg := rawOf_good h
    have h1 := Raw.q_parts hg
    refine Rat.ext ?_ ?_
    · rw [h1.1]; unfold rawOf; rw [if_neg h]
      show mkI _ (val (words _)) = _
      rw [val_words, mkI_num]
    · rw [h1.2]; unfold rawOf; rw [if_neg h]
      exact val_words _
theorem SzQ.ok {k : Nat} {q : Rat} (h : SzQ k q) : (rawOf q).ok k := by
  unfold rawOf
  split
  · exact ⟨(fun x hx => by cases hx), (fun x hx => by cases hx), Nat.zero_le _, Nat.zero_le _, h.2.2⟩
  · exact ⟨dig_words _, dig_words _, h.1, h.2.1, h.2.2⟩
theorem SzQ.isQ {k : Nat} {q : Rat} (h : SzQ k q) : IsQ k (F q) q := ⟨rawOf q, rfl, h.ok, rawOf_q q⟩
theorem len_one : (words 1).length = 1 := rfl
theorem Raw.ok.sz {k : Nat} {r : Raw} (h : r.ok k) : SzQ k r.q := by
  obtain ⟨h1, h2, h3, h4, h5⟩ := h
  by_cases hg : r.good
  · obtain ⟨e1, e2⟩ := Raw.q_parts hg
    obtain ⟨-, -, g1, g2, -⟩ := hg
    refine ⟨?_, ?_, h5⟩
    · rw [e1, mkI_abs, ← g1]; exact h3
    · rw [e2, ← g2]; exact h4
  · rw [Raw.q_zero hg]
    exact ⟨Nat.zero_le _, by show (words 1).length ≤ k; rw [len_one]; omega, h5⟩
theorem IsQ.sz {k : Nat} {x : D} {q : Rat} (h : IsQ k x q) : SzQ k q := by
  obtain ⟨r, -, h, rfl⟩ := h; exact h.sz
theorem SzQ.mono {k l : Nat} {q : Rat} (h : SzQ k q) (hl : k ≤ l) : SzQ l q := ⟨Nat.le_trans h.1 hl, Nat.le_trans h.2.1 hl, by have := h.2.2; omega⟩
theorem IsQ.mono {k l : Nat} {x : D} {q : Rat} (h : IsQ k x q) (hl : k ≤ l) : IsQ l x q := by
  obtain ⟨r, rfl, ⟨h1, h2, h3, h4, h5⟩, rfl⟩ := h; exact ⟨r, rfl, ⟨h1, h2, by omega, by omega, by omega⟩, rfl⟩

/-! ### Sizes -/
theorem sz_zero {k : Nat} (h : 0 < k) : SzQ k 0 := ⟨Nat.zero_le _, by show (words 1).length ≤ k; rw [len_one]; omega, h⟩
theorem sz_divInt {k : Nat} {n d : Int} (h0 : 0 < k) (hn : (words n.natAbs).length ≤ k) (hd : (words d.natAbs).length ≤ k) : SzQ k (Rat.divInt n d) := by
  by_cases hz : d = 0
  · subst hz; rw [Rat.divInt_zero]; exact sz_zero h0
  · refine ⟨?_, ?_, h0⟩
    · rw [Rat.num_divInt]
      refine Nat.le_trans (len_mono ?_) hn
      have h1 : d.sign * n = n ∨ d.sign * n = -n := by
        rcases sign_cases d with ⟨_, e⟩ | ⟨_, e⟩ | ⟨_, e⟩
        · right; rw [e]; omega
        · omega
        · left; rw [e]; omega
      have h2 : ∀ m : Int, (m / ((d.gcd n : Nat) : Int)).natAbs ≤ m.natAbs := fun m => Int.natAbs_ediv_le_natAbs m _
      have := h2 (d.sign * n)
      rcases h1 with e | e
      · rw [e] at this ⊢; exact this
      · rw [e, Int.natAbs_neg] at this; rw [e]; exact this
    · rw [Rat.den_divInt, if_neg hz]
      exact Nat.le_trans (len_mono (Nat.div_le_self _ _)) hd
theorem sz_mkRat {k : Nat} {n : Int} {d : Nat} (h0 : 0 < k) (hn : (words n.natAbs).length ≤ k) (hd : (words d).length ≤ k) : SzQ k (mkRat n d) := by
  rw [← Rat.divInt_ofNat]; exact sz_divInt h0 hn hd
theorem len_mulI {a b : Int} : (words (a * b).natAbs).length ≤ (words a.natAbs).length + (words b.natAbs).length := by rw [Int.natAbs_mul]; exact len_mul
theorem len_addI {a b : Int} : (words (a + b).natAbs).length ≤ max (words a.natAbs).length (words b.natAbs).length + 1 := by
  refine Nat.le_trans (len_mono (Int.natAbs_add_le a b)) len_add
theorem SzQ.neg {k : Nat} {a : Rat} (h : SzQ k a) : SzQ k (-a) := by
  unfold SzQ
  rw [Rat.neg_num, Rat.neg_den, Int.natAbs_neg]; exact h
theorem SzQ.add {k l : Nat} {a b : Rat} (ha : SzQ k a) (hb : SzQ l b) : SzQ (k + l + 1) (a + b) := by
  rw [Rat.add_def']
  have h1 := len_mulI (a := a.num) (b := (b.den : Int))
  have h2 := len_mulI (a := b.num) (b := (a.den : Int))
  have h3 := len_addI (a := a.num * b.den) (b := b.num * a.den)
  have h4 := len_mul (a := a.den) (b := b.den)
  rw [Int.natAbs_natCast] at h1 h2
  unfold SzQ at ha hb
  exact sz_mkRat (by omega) (by omega) (by omega)
theorem SzQ.sub {k l : Nat} {a b : Rat} (ha : SzQ k a) (hb : SzQ l b) : SzQ (k + l + 1) (a - b) := by rw [Rat.sub_eq_add_neg]; exact ha.add hb.neg
theorem SzQ.mul {k l : Nat} {a b : Rat} (ha : SzQ k a) (hb : SzQ l b) : SzQ (k + l) (a * b) := by
  rw [Rat.mul_def']
  have h1 := len_mulI (a := a.num) (b := b.num)
  have h4 := len_mul (a := a.den) (b := b.den)
  unfold SzQ at ha hb
  exact sz_mkRat (by omega) (by omega) (by omega)
theorem SzQ.inv {k : Nat} {a : Rat} (ha : SzQ k a) : SzQ k a⁻¹ := by
  rw [Rat.inv_def]
  unfold SzQ at ha
  exact sz_divInt ha.2.2 (by rw [Int.natAbs_natCast]; exact ha.2.1) ha.1
theorem SzQ.div {k l : Nat} {a b : Rat} (ha : SzQ k a) (hb : SzQ l b) : SzQ (k + l) (a / b) := by rw [Rat.div_def]; exact ha.mul hb.inv

/-! ### Words, fields -/
theorem rat_div (a : Rat) : a = Rat.divInt a.num a.den := (Rat.num_divInt_den a).symm
theorem F_of {n d : Int} (hn : n ≠ 0) (hd : 0 < d) : F (Rat.divInt n d) = .agg [bool (decide (n < 0)), rowW (words (n.natAbs / Int.gcd n d)), rowW (words (d.natAbs / Int.gcd n d))] := by
  have hgp : 0 < Int.gcd n d := by unfold Int.gcd; exact Nat.gcd_pos_of_pos_left _ (by omega)
  have hs : d.sign = 1 := Int.sign_eq_one_of_pos hd
  have hdv : ((Int.gcd n d : Nat) : Int) ∣ n := Int.gcd_dvd_left n d
  have e1 : (Rat.divInt n d).num = n / (Int.gcd n d : Nat) := by rw [Rat.num_divInt, hs, Int.one_mul, Int.gcd_comm]
  have e2 : (Rat.divInt n d).den = d.natAbs / Int.gcd n d := by rw [Rat.den_divInt, if_neg (by omega), Int.gcd_comm]
  obtain ⟨m, hm⟩ := hdv
  have e3 : n / ((Int.gcd n d : Nat) : Int) = m := Int.ediv_eq_of_eq_mul_right (by omega) hm
  have e4 : n.natAbs = Int.gcd n d * m.natAbs := by have := congrArg Int.natAbs hm; rwa [Int.natAbs_mul, Int.natAbs_natCast] at this
  have e5 : n.natAbs / Int.gcd n d = m.natAbs := Nat.div_eq_of_eq_mul_right hgp e4
  have hm0 : m ≠ 0 := fun e => by rw [e, Int.mul_zero] at hm; exact hn hm
  have e6 : (m < 0) ↔ (n < 0) := by
    have hg' : (0 : Int) < (Int.gcd n d : Nat) := by omega
    rcases Int.lt_or_gt_of_ne hm0 with h | h
    · have := Int.mul_neg_of_pos_of_neg hg' h
      exact ⟨fun _ => by rw [hm]; exact this, fun _ => h⟩
    · have := Int.mul_pos hg' h
      rw [← hm] at this
      constructor <;> intro <;> omega
  unfold F rawOf
  rw [e1, e3, if_neg hm0, e2, e5]
  show D.agg [bool (decide (m < 0)), _, _] = _
  rw [decide_eq_decide.2 e6]
theorem F_zero : F 0 = .agg [bool false, rowW [], rowW []] := rfl

/-! ### Order -/
def cmpQ (a b : Rat) : Int := if a < b then -1 else if b < a then 1 else 0
theorem cmpQ_parts (a b : Rat) : cmpZ (a.num * b.den) (b.num * a.den) = cmpQ a b := by
  unfold cmpZ cmpQ
  simp only [Rat.lt_iff]
def sgn (a : Rat) : Int := a.num.sign
theorem sgn_zero {a : Rat} : sgn a = 0 ↔ a = 0 := by unfold sgn; rw [Int.sign_eq_zero_iff_zero, Rat.num_eq_zero]
theorem sgn_neg {a : Rat} : sgn a < 0 ↔ a < 0 := by
  unfold sgn
  rw [Rat.lt_iff]
  simp only [Rat.zero_num, Rat.zero_den, Int.zero_mul]
  rcases sign_cases a.num with ⟨h, e⟩ | ⟨h, e⟩ | ⟨h, e⟩ <;> omega
theorem sgn_cases (a : Rat) : (a < 0 ∧ sgn a = -1) ∨ (a = 0 ∧ sgn a = 0) ∨ (0 < a ∧ sgn a = 1) := by
  have h1 := sgn_zero (a := a)
  have h2 := sgn_neg (a := a)
  rcases sign_cases a.num with ⟨h, e⟩ | ⟨h, e⟩ | ⟨h, e⟩
  · exact .inl ⟨h2.1 (by unfold sgn; omega), e⟩
  · exact .inr (.inl ⟨h1.1 e, e⟩)
  · refine .inr (.inr ⟨?_, e⟩)
    have n1 : ¬ a < 0 := fun hh => by have := h2.2 hh; unfold sgn at this; omega
    have n2 : a ≠ 0 := fun hh => by have := h1.2 hh; unfold sgn at this; omega
    rw [Rat.not_lt] at n1
    exact Rat.lt_of_le_of_ne n1 (Ne.symm n2)
theorem cmpQ_le {a b : Rat} : cmpQ a b ≤ 0 ↔ a ≤ b := by
  unfold cmpQ
  split
  · rename_i h; exact ⟨fun _ => Rat.le_of_lt h, fun _ => by omega⟩
  · rename_i h
    rw [Rat.not_lt] at h
    split
    · rename_i h2; constructor
      · intro; omega
      · intro h3; rw [← Rat.not_lt] at h3; exact absurd h2 h3
    · rename_i h2; rw [Rat.not_lt] at h2; exact ⟨fun _ => h2, fun _ => by omega⟩
theorem cmpQ_sub (a b : Rat) : sgn (a - b) = cmpQ a b := by
  unfold cmpQ
  rcases sgn_cases (a - b) with ⟨h, e⟩ | ⟨h, e⟩ | ⟨h, e⟩
  · have : a < b := by grind
    rw [if_pos this, e]
  · have : a = b := by grind
    subst this
    rw [e, if_neg Rat.lt_irrefl, if_neg Rat.lt_irrefl]
  · have h1 : b < a := by grind
    have h2 : ¬ a < b := by grind
    rw [if_neg h2, if_pos h1, e]
end Lw
