/- The contracts of the fractions: sums, products, quotients, order. No condition. -/
import Derived.Test.YtfdllnbmjlhliaaGreatDoorLwRb
namespace Lw
open Go Go.RowKit Go.Proofs

variable {G : World → Prop}

/-! ### Numbers -/
theorem add_parts (a b : Rat) : Rat.divInt (a.num * b.den + b.num * a.den) ((a.den : Int) * b.den) = a + b := by
  rw [Rat.add_def', ← Int.natCast_mul, Rat.divInt_ofNat]
theorem mul_parts (a b : Rat) : Rat.divInt (a.num * b.num) ((a.den : Int) * b.den) = a * b := by
  rw [Rat.mul_def', ← Int.natCast_mul, Rat.divInt_ofNat]
theorem neg_parts (a : Rat) : Rat.divInt (-a.num) a.den = -a := by rw [← Rat.neg_divInt, Rat.num_divInt_den]
theorem div_parts (a b : Rat) : Rat.divInt (a.num * b.den) ((a.den : Int) * b.num) = a / b := by
  rw [Rat.div_def, Rat.inv_def]
  conv => rhs; rw [← Rat.num_divInt_den a]
  rw [Rat.divInt_mul_divInt]
theorem den_ne (a : Rat) : ((a.den : Nat) : Int) ≠ 0 := by have := a.den_pos; omega
theorem dens_ne (a b : Rat) : ((a.den : Nat) : Int) * (b.den : Nat) ≠ 0 := by rw [← Int.natCast_mul]; have := Nat.mul_pos a.den_pos b.den_pos; omega
theorem ofI (n : Int) : Rat.divInt n 1 = (n : Rat) := by
  have := Rat.num_divInt_den (n : Rat)
  rw [Rat.num_intCast, Rat.den_intCast] at this
  exact this
def absQ (a : Rat) : Rat := if a < 0 then -a else a
theorem sgn_lt_true {a : Rat} (h : a < 0) : decide (sgn a < 0) = true := decide_eq_true (sgn_neg.2 h)
theorem sgn_lt_false {a : Rat} (h : ¬ a < 0) : decide (sgn a < 0) = false := decide_eq_false fun hh => h (sgn_neg.1 hh)
theorem cmpQ_ge {a b : Rat} : 0 ≤ cmpQ a b ↔ b ≤ a := by
  unfold cmpQ
  split
  · rename_i h; rw [← Rat.not_lt]; exact ⟨fun hh => by omega, fun hh => absurd h hh⟩
  · rename_i h
    rw [Rat.not_lt] at h
    split
    · exact ⟨fun _ => h, fun _ => by omega⟩
    · exact ⟨fun _ => h, fun _ => by omega⟩
theorem min_of {a b : Rat} : min a b = if cmpQ a b ≤ 0 then a else b := by
  rw [Rat.min_def]
  by_cases h : a ≤ b
  · rw [if_pos h, if_pos (cmpQ_le.2 h)]
  · rw [if_neg h, if_neg (fun hh => h (cmpQ_le.1 hh))]
theorem max_of {a b : Rat} : max a b = if 0 ≤ cmpQ a b then a else b := by
  rw [Rat.max_def]
  by_cases h : a ≤ b
  · rw [if_pos h]
    by_cases h2 : b ≤ a
    · rw [if_pos (cmpQ_ge.2 h2)]; exact Rat.le_antisymm h2 h
    · rw [if_neg (fun hh => h2 (cmpQ_ge.1 hh))]
  · have h2 : b ≤ a := by rcases Rat.le_total (a := a) (b := b) with q | q; exact absurd q h; exact q
    rw [if_neg h, if_pos (cmpQ_ge.2 h2)]

/-! ### Sizes of what is reckoned with -/
theorem IsQ.num {k : Nat} {x : D} {a : Rat} (h : IsQ k x a) (hk : k ≤ KB) : SzI a.num := by
  have h1 := h.sz.1
  rw [KB_eq] at hk
  unfold SzI Sz
  have h30 : (2:Nat) ^ 30 = 1073741824 := by decide
  omega
theorem IsQ.den {k : Nat} {x : D} {a : Rat} (h : IsQ k x a) (hk : k ≤ KB) : SzI ((a.den : Nat) : Int) := by
  have h1 := h.sz.2.1
  rw [KB_eq] at hk
  unfold SzI Sz
  have h30 : (2:Nat) ^ 30 = 1073741824 := by decide
  rw [Int.natAbs_natCast]; omega
theorem szI_mul {k l : Nat} {i j : Int} (hi : (words i.natAbs).length ≤ k) (hj : (words j.natAbs).length ≤ l) (hk : k ≤ KB) (hl : l ≤ KB) : SzI (i * j) := by
  have := len_mulI (a := i) (b := j)
  rw [KB_eq] at hk hl
  unfold SzI Sz
  have h30 : (2:Nat) ^ 30 = 1073741824 := by decide
  omega
theorem IsQ.dlen {k : Nat} {x : D} {a : Rat} (h : IsQ k x a) : (words ((a.den : Nat) : Int).natAbs).length ≤ k := by rw [Int.natAbs_natCast]; exact h.sz.2.1
theorem szI_sum {k l : Nat} {x y : D} {a b : Rat} (hx : IsQ k x a) (hy : IsQ l y b) (hk : k ≤ KB) (hl : l ≤ KB) : SzI (a.num * b.den + b.num * a.den) := by
  have h1 := len_mulI (a := a.num) (b := ((b.den : Nat) : Int))
  have h2 := len_mulI (a := b.num) (b := ((a.den : Nat) : Int))
  have h3 := len_addI (a := a.num * b.den) (b := b.num * a.den)
  have := hx.sz.1
  have := hy.sz.1
  have := hx.dlen
  have := hy.dlen
  rw [KB_eq] at hk hl
  unfold SzI Sz
  have h30 : (2:Nat) ^ 30 = 1073741824 := by decide
  omega
theorem IsQ.parts {k : Nat} {x : D} {a : Rat} (hG : Steady G) (h : IsQ k x a) (hk : k ≤ KB) : Spec Tryz.prog G 66 [x] (.tup [W a.num, W a.den]) := by
  obtain ⟨r, rfl, hr, rfl⟩ := h; exact Parts_spec hG hr hk

/-! ### The functions -/
theorem FAdd_spec (hG : Steady G) {k l : Nat} {x y : D} {a b : Rat} (hx : IsQ k x a) (hy : IsQ l y b) (hk : k ≤ KB) (hl : l ≤ KB) : Spec Tryz.prog G 35 [x, y] (F (a + b)) := by
  have p1 := hx.parts hG hk
  have p2 := hy.parts hG hl
  have m1 := Mul_spec (G := G) hG (hx.num hk) (hy.den hl)
  have m2 := Mul_spec (G := G) hG (hy.num hl) (hx.den hk)
  have m3 := Mul_spec (G := G) hG (hx.den hk) (hy.den hl)
  have s1 := Add_spec (G := G) hG (szI_mul hx.sz.1 hy.dlen hk hl) (szI_mul hy.sz.1 hx.dlen hl hk)
  have f1 := form_spec (G := G) hG (dens_ne a b) (szI_sum hx hy hk hl) (szI_mul hx.dlen hy.dlen hk hl)
  rw [add_parts] at f1
  obtain ⟨r, rfl, -, rfl⟩ := hx
  obtain ⟨q, rfl, -, rfl⟩ := hy
  exact Spec.of_run hG Tryz.func35 (ro := [2, 3]) (m := 40) [.call p1, .call p2, .call m1, .call m2, .call s1, .call m3, .call f1] (by kernel_rfl)
theorem FMul_spec (hG : Steady G) {k l : Nat} {x y : D} {a b : Rat} (hx : IsQ k x a) (hy : IsQ l y b) (hk : k ≤ KB) (hl : l ≤ KB) : Spec Tryz.prog G 36 [x, y] (F (a * b)) := by
  have p1 := hx.parts hG hk
  have p2 := hy.parts hG hl
  have m1 := Mul_spec (G := G) hG (hx.num hk) (hy.num hl)
  have m3 := Mul_spec (G := G) hG (hx.den hk) (hy.den hl)
  have f1 := form_spec (G := G) hG (dens_ne a b) (szI_mul hx.sz.1 hy.sz.1 hk hl) (szI_mul hx.dlen hy.dlen hk hl)
  rw [mul_parts] at f1
  obtain ⟨r, rfl, -, rfl⟩ := hx
  obtain ⟨q, rfl, -, rfl⟩ := hy
  exact Spec.of_run hG Tryz.func36 (ro := [2, 3]) (m := 40) [.call p1, .call p2, .call m1, .call m3, .call f1] (by kernel_rfl)
theorem FNeg_spec (hG : Steady G) {k : Nat} {x : D} {a : Rat} (hx : IsQ k x a) (hk : k ≤ KB) : Spec Tryz.prog G 87 [x] (F (-a)) := by
  have p1 := hx.parts hG hk
  have n1 := Neg_spec (G := G) hG (hx.num hk)
  have f1 := form_spec (G := G) hG (den_ne a) (n := -a.num) (by have := hx.num hk; unfold SzI at this ⊢; rw [Int.natAbs_neg]; exact this) (hx.den hk)
  rw [neg_parts] at f1
  obtain ⟨r, rfl, -, rfl⟩ := hx
  exact Spec.of_run hG Tryz.func87 (ro := [1]) (m := 40) [.call p1, .call n1, .call f1] (by kernel_rfl)
theorem FSub_spec (hG : Steady G) {k l : Nat} {x y : D} {a b : Rat} (hx : IsQ k x a) (hy : IsQ l y b) (hk : k ≤ KB) (hl : l ≤ KB) : Spec Tryz.prog G 53 [x, y] (F (a - b)) := by
  have n1 := FNeg_spec hG hy hl
  have s1 := FAdd_spec hG hx hy.sz.neg.isQ hk hl
  rw [← Rat.sub_eq_add_neg] at s1
  obtain ⟨r, rfl, -, rfl⟩ := hx
  obtain ⟨q, rfl, -, rfl⟩ := hy
  exact Spec.of_run hG Tryz.func53 (ro := [2, 3]) (m := 40) [.call n1, .call s1] (by kernel_rfl)
theorem FSign_spec (hG : Steady G) {k : Nat} {x : D} {a : Rat} (hx : IsQ k x a) (hk : k ≤ KB) : Spec Tryz.prog G 30 [x] (int (sgn a)) := by
  have p1 := hx.parts hG hk
  have n1 := Sign_spec (G := G) hG (hx.num hk)
  obtain ⟨r, rfl, -, rfl⟩ := hx
  exact Spec.of_run hG Tryz.func30 (ro := [1]) (m := 40) [.call p1, .call n1] (by kernel_rfl)
theorem FCmp_spec (hG : Steady G) {k l : Nat} {x y : D} {a b : Rat} (hx : IsQ k x a) (hy : IsQ l y b) (hk : k ≤ KB) (hl : l ≤ KB) : Spec Tryz.prog G 31 [x, y] (int (cmpQ a b)) := by
  have p1 := hx.parts hG hk
  have p2 := hy.parts hG hl
  have m1 := Mul_spec (G := G) hG (hx.num hk) (hy.den hl)
  have m2 := Mul_spec (G := G) hG (hy.num hl) (hx.den hk)
  have c1 := Cmp_spec (G := G) hG (szI_mul hx.sz.1 hy.dlen hk hl) (szI_mul hy.sz.1 hx.dlen hl hk)
  rw [cmpQ_parts] at c1
  obtain ⟨r, rfl, -, rfl⟩ := hx
  obtain ⟨q, rfl, -, rfl⟩ := hy
  exact Spec.of_run hG Tryz.func31 (ro := [2, 3]) (m := 40) [.call p1, .call p2, .call m1, .call m2, .call c1] (by kernel_rfl)
theorem FSame_form (hG : Steady G) {k : Nat} {x : D} {a : Rat} (hx : IsQ k x a) (hk : k ≤ KB) : Spec Tryz.prog G 70 [W a.num, W a.den] (F a) := by
  have f1 := form_spec (G := G) hG (den_ne a) (hx.num hk) (hx.den hk)
  rwa [Rat.num_divInt_den] at f1
theorem szI_one : SzI 1 := by unfold SzI Sz; decide
theorem szI_small {i : Int} (h : -9223372036854775808 ≤ i) (h' : i < 9223372036854775808) : SzI i := by
  unfold SzI Sz
  have h1 : (words i.natAbs).length ≤ 2 := (len_le_iff _ _).2 (by rw [show BP 2 = 18446744073709551616 from rfl]; omega)
  have h30 : (2:Nat) ^ 30 = 1073741824 := by decide
  omega
theorem FOf_spec (hG : Steady G) {i : Int} (h : -9223372036854775808 ≤ i) (h' : i < 9223372036854775808) : Spec Tryz.prog G 34 [int i] (F (i : Rat)) := by
  have f1 := form_spec (G := G) hG (n := i) (d := 1) (by omega) (szI_small h h') szI_one
  rw [ofI] at f1
  exact Spec.of_run hG Tryz.func34 (ro := []) (m := 40) [.call (Of_spec hG h h'), .call (one_spec hG), .call f1] (by kernel_rfl)
theorem sign_ne {i : Int} (h : i ≠ 0) : (i.sign == 0) = false := by rw [beq_eq_false_iff_ne]; intro hh; exact h (Int.sign_eq_zero_iff_zero.1 hh)
theorem From_spec (hG : Steady G) {n d : Int} (hd0 : d ≠ 0) (hn : SzI n) (hd : SzI d) : Spec Tryz.prog G 88 [W n, W d] (.tup [F (Rat.divInt n d), .lit .nilIface]) :=
  Spec.of_run hG Tryz.func88 (ro := [2, 3]) (m := 40) [.call (Sign_spec hG hd), .eq 8 (eqB (sign_ne hd0)), .call (form_spec hG hd0 hn hd)] (by kernel_rfl)
theorem From_zero (hG : Steady G) {n : Int} : Spec Tryz.prog G 88 [W n, W 0] (.tup [F 0, errno 8]) :=
  Spec.of_run hG Tryz.func88 (ro := [2, 3]) (m := 40) [.call (Sign_spec (G := G) hG (i := 0) (by unfold SzI Sz; decide))] (by kernel_rfl)
theorem FDiv_spec (hG : Steady G) {k l : Nat} {x y : D} {a b : Rat} (hx : IsQ k x a) (hy : IsQ l y b) (hk : k ≤ KB) (hl : l ≤ KB) (hb : b ≠ 0) :
    Spec Tryz.prog G 54 [x, y] (.tup [F (a / b), .lit .nilIface]) := by
  have p1 := hx.parts hG hk
  have p2 := hy.parts hG hl
  have m1 := Mul_spec (G := G) hG (hx.num hk) (hy.den hl)
  have m2 := Mul_spec (G := G) hG (hx.den hk) (hy.num hl)
  have hne : ((a.den : Nat) : Int) * b.num ≠ 0 := Int.mul_ne_zero (den_ne a) (fun h => hb (Rat.num_eq_zero.1 h))
  have f1 := From_spec (G := G) hG hne (szI_mul hx.sz.1 hy.dlen hk hl) (szI_mul hx.dlen hy.sz.1 hk hl)
  rw [div_parts] at f1
  obtain ⟨r, rfl, -, rfl⟩ := hx
  obtain ⟨q, rfl, -, rfl⟩ := hy
  exact Spec.of_run hG Tryz.func54 (ro := [2, 3]) (m := 40) [.call p1, .call p2, .call m1, .call m2, .call f1] (by kernel_rfl)
theorem FDiv_zero (hG : Steady G) {k l : Nat} {x y : D} {a : Rat} (hx : IsQ k x a) (hy : IsQ l y 0) (hk : k ≤ KB) (hl : l ≤ KB) :
    Spec Tryz.prog G 54 [x, y] (.tup [F 0, errno 8]) := by
  have p1 := hx.parts hG hk
  have p2 := hy.parts hG hl
  have m1 := Mul_spec (G := G) hG (hx.num hk) (hy.den hl)
  have m2 := Mul_spec (G := G) hG (hx.den hk) (hy.num hl)
  rw [Rat.zero_num, Int.mul_zero] at m2
  obtain ⟨r, rfl, -, rfl⟩ := hx
  obtain ⟨q, rfl, -, hq⟩ := hy
  exact Spec.of_run hG Tryz.func54 (ro := [2, 3]) (m := 40) [.call p1, .call p2, .call m1, .call m2, .call (From_zero hG (n := r.q.num * ((0 : Rat).den : Nat)))] (by kernel_rfl)
end Lw
