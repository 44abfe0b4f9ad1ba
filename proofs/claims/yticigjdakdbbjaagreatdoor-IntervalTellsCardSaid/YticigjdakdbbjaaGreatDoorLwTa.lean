/- The texts of small numbers. No condition. -/
import Derived.Test.YticigjdakdbbjaaGreatDoorLwRa
namespace Lw
open Go Go.RowKit Go.Proofs

variable {G : World → Prop}

def txt (l : List UInt8) : D := .lit (.string ⟨l.toArray⟩)
theorem len_small {n : Nat} (h : n < 1000000000) : (words n).length ≤ 2 ^ 36 := by
  have hl : (words n).length ≤ 1 := (len_le_iff n 1).2 (by rw [show BP 1 = 4294967296 from rfl]; omega)
  have : (2:Nat) ^ 36 = 68719476736 := by decide
  omega
theorem short_nine (hG : Steady G) {n : Nat} (h : n < 1000000000) : Spec Tryz.prog G 114 [rowW (words n), u32 1000000000] (.tup [rowW [], u32 n]) := by
  have := short_spec (G := G) hG (dig_words n) (d := 1000000000) (by omega) (by omega) (len_small h)
  rw [val_words, Nat.div_eq_of_lt h, Nat.mod_eq_of_lt h] at this
  exact this
theorem Text_6n (hG : Steady G) : Spec Tryz.prog G 89 [wv true 6] (txt [45, 54]) :=
  Spec.of_run hG Tryz.func89 (ro := [1, 36]) (m := 60)
    [.call (mag_spec (s := true) (n := 6) hG (by simp) (len_small (by omega))), .call (short_nine hG (n := 6) (by omega)), .inl [] Tryz.func115, .inl [] Tryz.func132, .inl [] Tryz.func140, .inl [] Tryz.func146,
     .inl [] Tryz.func117, .call (neg_spec (s := true) (n := 6) hG (by simp) (len_small (by omega)))] (by kernel_rfl)
theorem Text_1 (hG : Steady G) : Spec Tryz.prog G 89 [wv false 1] (txt [49]) :=
  Spec.of_run hG Tryz.func89 (ro := [1, 36]) (m := 60)
    [.call (mag_spec (s := false) (n := 1) hG (by simp) (len_small (by omega))), .call (short_nine hG (n := 1) (by omega)), .inl [] Tryz.func115, .inl [] Tryz.func132, .inl [] Tryz.func140, .inl [] Tryz.func146,
     .inl [] Tryz.func117, .call (neg_spec (s := false) (n := 1) hG (by simp) (len_small (by omega)))] (by kernel_rfl)
theorem Text_2 (hG : Steady G) : Spec Tryz.prog G 89 [wv false 2] (txt [50]) :=
  Spec.of_run hG Tryz.func89 (ro := [1, 36]) (m := 60)
    [.call (mag_spec (s := false) (n := 2) hG (by simp) (len_small (by omega))), .call (short_nine hG (n := 2) (by omega)), .inl [] Tryz.func115, .inl [] Tryz.func132, .inl [] Tryz.func140, .inl [] Tryz.func146,
     .inl [] Tryz.func117, .call (neg_spec (s := false) (n := 2) hG (by simp) (len_small (by omega)))] (by kernel_rfl)
theorem Text_3 (hG : Steady G) : Spec Tryz.prog G 89 [wv false 3] (txt [51]) :=
  Spec.of_run hG Tryz.func89 (ro := [1, 36]) (m := 60)
    [.call (mag_spec (s := false) (n := 3) hG (by simp) (len_small (by omega))), .call (short_nine hG (n := 3) (by omega)), .inl [] Tryz.func115, .inl [] Tryz.func132, .inl [] Tryz.func140, .inl [] Tryz.func146,
     .inl [] Tryz.func117, .call (neg_spec (s := false) (n := 3) hG (by simp) (len_small (by omega)))] (by kernel_rfl)
theorem Text_4 (hG : Steady G) : Spec Tryz.prog G 89 [wv false 4] (txt [52]) :=
  Spec.of_run hG Tryz.func89 (ro := [1, 36]) (m := 60)
    [.call (mag_spec (s := false) (n := 4) hG (by simp) (len_small (by omega))), .call (short_nine hG (n := 4) (by omega)), .inl [] Tryz.func115, .inl [] Tryz.func132, .inl [] Tryz.func140, .inl [] Tryz.func146,
     .inl [] Tryz.func117, .call (neg_spec (s := false) (n := 4) hG (by simp) (len_small (by omega)))] (by kernel_rfl)
theorem Text_8 (hG : Steady G) : Spec Tryz.prog G 89 [wv false 8] (txt [56]) :=
  Spec.of_run hG Tryz.func89 (ro := [1, 36]) (m := 60)
    [.call (mag_spec (s := false) (n := 8) hG (by simp) (len_small (by omega))), .call (short_nine hG (n := 8) (by omega)), .inl [] Tryz.func115, .inl [] Tryz.func132, .inl [] Tryz.func140, .inl [] Tryz.func146,
     .inl [] Tryz.func117, .call (neg_spec (s := false) (n := 8) hG (by simp) (len_small (by omega)))] (by kernel_rfl)
theorem Text_11 (hG : Steady G) : Spec Tryz.prog G 89 [wv false 11] (txt [49, 49]) :=
  Spec.of_run hG Tryz.func89 (ro := [1, 36]) (m := 60)
    [.call (mag_spec (s := false) (n := 11) hG (by simp) (len_small (by omega))), .call (short_nine hG (n := 11) (by omega)), .inl [] Tryz.func115, .inl [] Tryz.func132, .inl [] Tryz.func140, .inl [] Tryz.func146,
     .inl [] Tryz.func117, .call (neg_spec (s := false) (n := 11) hG (by simp) (len_small (by omega)))] (by kernel_rfl)

/-! ### Texts of fractions -/
theorem FText_int (hG : Steady G) {k : Nat} {x : D} {a : Rat} (hx : IsQ k x a) (hk : k ≤ KB) {n : Int} {l : List UInt8} (hn : a.num = n) (hd : a.den = 1) (ht : Spec Tryz.prog G 89 [W n] (txt l)) :
    Spec Tryz.prog G 51 [x] (txt l) := by
  have p1 := hx.parts hG hk
  rw [hn, hd] at p1
  have c := Cmp_spec (G := G) hG szI_one szI_one
  obtain ⟨r, rfl, -, rfl⟩ := hx
  exact Spec.of_run hG Tryz.func51 (ro := [1]) (m := 40) [.call p1, .call (one_spec hG), .call c, .call ht] (by kernel_rfl)
def q14 : Rat := Rat.divInt 1 4
def q34 : Rat := Rat.divInt 3 4
def q32 : Rat := Rat.divInt 3 2
def q118 : Rat := Rat.divInt 11 8
theorem szI_lit {n : Nat} (h : n < 4294967296) : SzI (n : Int) := szI_small (by omega) (by omega)
theorem sq14 : SzQ 1 q14 := by unfold SzQ; decide +kernel
theorem FText_q14 (hG : Steady G) : Spec Tryz.prog G 51 [F q14] (txt [49, 47, 52]) := by
  have p1 := sq14.isQ.parts (G := G) hG (by rw [KB_eq]; omega)
  rw [show q14.num = 1 by decide +kernel, show q14.den = 4 by decide +kernel] at p1
  have c := Cmp_spec (G := G) hG (i := ((4 : Nat) : Int)) (j := 1) (szI_lit (by omega)) szI_one
  exact Spec.of_run hG Tryz.func51 (ro := [1]) (m := 40) [.call p1, .call (one_spec hG), .call c, .call (Text_1 hG), .call (Text_4 hG)] (by kernel_rfl)
theorem sq34 : SzQ 1 q34 := by unfold SzQ; decide +kernel
theorem FText_q34 (hG : Steady G) : Spec Tryz.prog G 51 [F q34] (txt [51, 47, 52]) := by
  have p1 := sq34.isQ.parts (G := G) hG (by rw [KB_eq]; omega)
  rw [show q34.num = 3 by decide +kernel, show q34.den = 4 by decide +kernel] at p1
  have c := Cmp_spec (G := G) hG (i := ((4 : Nat) : Int)) (j := 1) (szI_lit (by omega)) szI_one
  exact Spec.of_run hG Tryz.func51 (ro := [1]) (m := 40) [.call p1, .call (one_spec hG), .call c, .call (Text_3 hG), .call (Text_4 hG)] (by kernel_rfl)
theorem sq32 : SzQ 1 q32 := by unfold SzQ; decide +kernel
theorem FText_q32 (hG : Steady G) : Spec Tryz.prog G 51 [F q32] (txt [51, 47, 50]) := by
  have p1 := sq32.isQ.parts (G := G) hG (by rw [KB_eq]; omega)
  rw [show q32.num = 3 by decide +kernel, show q32.den = 2 by decide +kernel] at p1
  have c := Cmp_spec (G := G) hG (i := ((2 : Nat) : Int)) (j := 1) (szI_lit (by omega)) szI_one
  exact Spec.of_run hG Tryz.func51 (ro := [1]) (m := 40) [.call p1, .call (one_spec hG), .call c, .call (Text_3 hG), .call (Text_2 hG)] (by kernel_rfl)
theorem sq118 : SzQ 1 q118 := by unfold SzQ; decide +kernel
theorem FText_q118 (hG : Steady G) : Spec Tryz.prog G 51 [F q118] (txt [49, 49, 47, 56]) := by
  have p1 := sq118.isQ.parts (G := G) hG (by rw [KB_eq]; omega)
  rw [show q118.num = 11 by decide +kernel, show q118.den = 8 by decide +kernel] at p1
  have c := Cmp_spec (G := G) hG (i := ((8 : Nat) : Int)) (j := 1) (szI_lit (by omega)) szI_one
  exact Spec.of_run hG Tryz.func51 (ro := [1]) (m := 40) [.call p1, .call (one_spec hG), .call c, .call (Text_11 hG), .call (Text_8 hG)] (by kernel_rfl)
theorem sz_lit {k : Nat} {n : Int} (h0 : 0 < k) (h : -4294967296 < n) (h' : n < 4294967296) : SzQ k (n : Rat) := sz_int h0 (Nat.le_trans ((len_le_iff _ 1).2 (by rw [show BP 1 = 4294967296 from rfl]; omega)) h0)
theorem FText_m6 (hG : Steady G) : Spec Tryz.prog G 51 [F ((-6 : Int) : Rat)] (txt [45, 54]) := FText_int hG (sz_lit (k := 1) (by omega) (by omega) (by omega)).isQ (by rw [KB_eq]; omega) rfl rfl (Text_6n hG)
theorem FText_p3 (hG : Steady G) : Spec Tryz.prog G 51 [F ((3 : Int) : Rat)] (txt [51]) := FText_int hG (sz_lit (k := 1) (by omega) (by omega) (by omega)).isQ (by rw [KB_eq]; omega) rfl rfl (Text_3 hG)
theorem FText_p1 (hG : Steady G) : Spec Tryz.prog G 51 [F ((1 : Int) : Rat)] (txt [49]) := FText_int hG (sz_lit (k := 1) (by omega) (by omega) (by omega)).isQ (by rw [KB_eq]; omega) rfl rfl (Text_1 hG)

/-! ### Texts of intervals -/
theorem clean_FR (hG : Steady G) {k : Nat} {a b : Rat} (ha : SzQ k a) (hb : SzQ k b) (h : a ≤ b) (hk : k ≤ KB) : Spec Tryz.prog G 37 [FR a b] (FR a b) := clean_spec hG (FR_isI ha hb h) hk
theorem IText_1 (hG : Steady G) : Spec Tryz.prog G 25 [FR ((-6 : Int) : Rat) ((3 : Int) : Rat)] (txt [45, 54, 46, 46, 51]) :=
  Spec.of_run hG Tryz.func25 (ro := []) (m := 40) [.call (clean_FR hG (sz_lit (k := 1) (n := -6) (by omega) (by omega) (by omega)) (sz_lit (k := 1) (n := 3) (by omega) (by omega) (by omega)) (by decide +kernel) (by rw [KB_eq]; omega)), .call (FText_m6 hG), .call (FText_p3 hG)] (by kernel_rfl)
theorem IText_2 (hG : Steady G) : Spec Tryz.prog G 25 [FR q14 ((1 : Int) : Rat)] (txt [49, 47, 52, 46, 46, 49]) :=
  Spec.of_run hG Tryz.func25 (ro := []) (m := 40) [.call (clean_FR hG sq14 (sz_lit (k := 1) (n := 1) (by omega) (by omega) (by omega)) (by decide +kernel) (by rw [KB_eq]; omega)), .call (FText_q14 hG), .call (FText_p1 hG)] (by kernel_rfl)
theorem IText_3 (hG : Steady G) : Spec Tryz.prog G 25 [FR q118 q32] (txt [49, 49, 47, 56, 46, 46, 51, 47, 50]) :=
  Spec.of_run hG Tryz.func25 (ro := []) (m := 40) [.call (clean_FR hG sq118 sq32 (by decide +kernel) (by rw [KB_eq]; omega)), .call (FText_q118 hG), .call (FText_q32 hG)] (by kernel_rfl)
theorem IText_4 (hG : Steady G) : Spec Tryz.prog G 25 [FR q14 q34] (txt [49, 47, 52, 46, 46, 51, 47, 52]) :=
  Spec.of_run hG Tryz.func25 (ro := []) (m := 40) [.call (clean_FR hG sq14 sq34 (by decide +kernel) (by rw [KB_eq]; omega)), .call (FText_q14 hG), .call (FText_q34 hG)] (by kernel_rfl)

/-! ### awake -/
theorem of_spec (hG : Steady G) {i j : Int} (h : -9223372036854775808 ≤ i) (h' : i < 9223372036854775808) (g : -9223372036854775808 ≤ j) (g' : j < 9223372036854775808) :
    Spec Tryz.prog G 28 [int i, int j] (FR (i : Rat) (j : Rat)) :=
  Spec.of_run hG Tryz.func28 (ro := []) (m := 40) [.call (RFOf_spec hG h h'), .call (RFOf_spec hG g g')] (by kernel_rfl)
theorem isI_lit {i j : Int} (h : -4294967296 < i) (h' : i < 4294967296) (g : -4294967296 < j) (g' : j < 4294967296) (hij : i ≤ j) : IsI 1 (FR (i : Rat) (j : Rat)) (i : Rat) (j : Rat) :=
  FR_isI (sz_lit (by omega) h h') (sz_lit (by omega) g g') (Rat.intCast_le_intCast.2 hij)
theorem aw_div (hG : Steady G) : Spec Tryz.prog G 27 [FR ((1 : Int) : Rat) ((2 : Int) : Rat), FR ((2 : Int) : Rat) ((4 : Int) : Rat)] (.tup [FR q14 ((1 : Int) : Rat), .lit .nilIface]) := by
  have h := IDiv_spec hG (isI_lit (i := 1) (j := 2) (by omega) (by omega) (by omega) (by omega) (by omega)) (isI_lit (i := 2) (j := 4) (by omega) (by omega) (by omega) (by omega) (by omega)) (by rw [KB_eq]; omega) (by decide +kernel)
  rw [show mulLo ((1 : Int) : Rat) ((2 : Int) : Rat) (((1 : Int) : Rat) / ((4 : Int) : Rat)) (((1 : Int) : Rat) / ((2 : Int) : Rat)) = q14 by decide +kernel,
    show mulHi ((1 : Int) : Rat) ((2 : Int) : Rat) (((1 : Int) : Rat) / ((4 : Int) : Rat)) (((1 : Int) : Rat) / ((2 : Int) : Rat)) = ((1 : Int) : Rat) by decide +kernel] at h
  exact h
theorem aw_mul (hG : Steady G) : Spec Tryz.prog G 33 [FR ((-1 : Int) : Rat) ((2 : Int) : Rat), FR ((-3 : Int) : Rat) ((1 : Int) : Rat)] (FR ((-6 : Int) : Rat) ((3 : Int) : Rat)) := by
  have h := IMul_spec hG (isI_lit (i := -1) (j := 2) (by omega) (by omega) (by omega) (by omega) (by omega)) (isI_lit (i := -3) (j := 1) (by omega) (by omega) (by omega) (by omega) (by omega)) (by rw [KB_eq]; omega)
  rw [show mulLo ((-1 : Int) : Rat) ((2 : Int) : Rat) ((-3 : Int) : Rat) ((1 : Int) : Rat) = ((-6 : Int) : Rat) by decide +kernel, show mulHi ((-1 : Int) : Rat) ((2 : Int) : Rat) ((-3 : Int) : Rat) ((1 : Int) : Rat) = ((3 : Int) : Rat) by decide +kernel] at h
  exact h
theorem aw_root (hG : Steady G) : Spec Tryz.prog G 29 [FR ((2 : Int) : Rat) ((2 : Int) : Rat), nat 3] (.tup [FR q118 q32, .lit .nilIface]) := by
  have h := IRoot_spec hG (b := 3) (isI_lit (i := 2) (j := 2) (by omega) (by omega) (by omega) (by omega) (by omega)) (by rw [RK_eq]; omega) (by omega) (by decide +kernel)
  have i1 : isq 128 = 11 := isq_unique (by omega) (by omega)
  have e1 : rootLo ((2 : Int) : Rat) 3 = q118 := by
    unfold rootLo
    rw [show (((2 : Int) : Rat) * sqQ 3).floor.natAbs = 128 by decide +kernel, i1]
    decide +kernel
  have e2 : rootHi ((2 : Int) : Rat) 3 = q32 := by
    unfold rootHi
    rw [show (-(-(((2 : Int) : Rat) * sqQ 3)).floor) = 128 by decide +kernel]
    unfold isqUp
    rw [show (128 : Int).natAbs = 128 from rfl, i1, if_pos (by omega)]
    decide +kernel
  rw [e1, e2] at h
  exact h
def q13 : Rat := Rat.divInt 1 3
theorem sq13 : SzQ 1 q13 := by unfold SzQ; decide +kernel
theorem aw_out (hG : Steady G) : Spec Tryz.prog G 31 [FR q13 (q13 + q13), nat 2] (.tup [FR q14 q34, .lit .nilIface]) := by
  have h := Out_spec hG (b := 2) (FR_isI (sq13.mono (l := 3) (by omega)) ((sq13.add sq13).mono (l := 3) (by omega)) (by decide +kernel)) (by rw [KB_eq]; omega) (by omega)
  rw [show gridQ q13 2 = q14 by decide +kernel, show -(gridQ (-(q13 + q13)) 2) = q34 by decide +kernel] at h
  exact h
theorem awake_spec (hG : Steady G) : Spec Tryz.prog G 5 [] (bool true) := by
  have kb : 1 ≤ KB := by rw [KB_eq]; omega
  exact Spec.of_run hG Tryz.func5 (ro := []) (m := 60)
    [.call (of_spec hG (i := 1) (j := 2) (by omega) (by omega) (by omega) (by omega)), .call (of_spec hG (i := 2) (j := 4) (by omega) (by omega) (by omega) (by omega)), .call (aw_div hG),
     .call (of_spec hG (i := 2) (j := 2) (by omega) (by omega) (by omega) (by omega)), .call (aw_root hG), .call (FMake_spec hG (i := 1) (j := 3) (by omega) (by omega) (by omega) (by omega) (by omega)), .call (FAdd_spec hG sq13.isQ sq13.isQ kb kb), .call (aw_out hG),
     .call (of_spec hG (i := -1) (j := 2) (by omega) (by omega) (by omega) (by omega)), .call (of_spec hG (i := -3) (j := 1) (by omega) (by omega) (by omega) (by omega)), .call (aw_mul hG), .call (IText_1 hG), .call (IText_2 hG), .call (IText_3 hG), .call (IText_4 hG)] (by kernel_rfl)
end Lw

namespace Lw
open Go Go.RowKit Go.Proofs

variable {G : World → Prop}

/-! ### short -/
def RRaw.cells (r : RRaw) : List D := [bool r.lo.s, rowW r.lo.n, rowW r.lo.d, bool r.hi.s, rowW r.hi.n, rowW r.hi.d]
def RRaw.short (r : RRaw) : Bool := decide (r.lo.n.length ≤ 8) && (decide (r.lo.d.length ≤ 8) && (decide (r.hi.n.length ≤ 8) && decide (r.hi.d.length ≤ 8)))
theorem gt8_true {n : Nat} (h : ¬ n ≤ 8) : decide (Int.ofNat n > 8) = true := by simp only [Int.ofNat_eq_natCast, decide_eq_true_eq]; omega
theorem gt8_false {n : Nat} (h : n ≤ 8) : decide (Int.ofNat n > 8) = false := by simp only [Int.ofNat_eq_natCast, decide_eq_false_iff_not]; omega
theorem short_one (hG : Steady G) (r : RRaw) : Spec Tryz.prog G 4 [.row 1 false r.cells] (bool r.short) := by
  unfold RRaw.short
  by_cases h1 : r.lo.n.length ≤ 8
  · rw [decide_eq_true h1]
    by_cases h2 : r.lo.d.length ≤ 8
    · rw [decide_eq_true h2]
      by_cases h3 : r.hi.n.length ≤ 8
      · rw [decide_eq_true h3]
        by_cases h4 : r.hi.d.length ≤ 8
        · rw [decide_eq_true h4]
          exact Spec.of_run hG Tryz.func4 (ro := []) (m := 40) [.eq 15 (eqB (gt8_false h1)), .eq 21 (eqB (gt8_false h2)), .eq 28 (eqB (gt8_false h3)), .eq 35 (eqB (gt8_false h4))] (by kernel_rfl)
        · rw [decide_eq_false h4]
          exact Spec.of_run hG Tryz.func4 (ro := []) (m := 40) [.eq 15 (eqB (gt8_false h1)), .eq 21 (eqB (gt8_false h2)), .eq 28 (eqB (gt8_false h3)), .eq 35 (eqB (gt8_true h4))] (by kernel_rfl)
      · rw [decide_eq_false h3]
        exact Spec.of_run hG Tryz.func4 (ro := []) (m := 40) [.eq 15 (eqB (gt8_false h1)), .eq 21 (eqB (gt8_false h2)), .eq 28 (eqB (gt8_true h3))] (by kernel_rfl)
    · rw [decide_eq_false h2]
      exact Spec.of_run hG Tryz.func4 (ro := []) (m := 40) [.eq 15 (eqB (gt8_false h1)), .eq 21 (eqB (gt8_true h2))] (by kernel_rfl)
  · rw [decide_eq_false h1]
    exact Spec.of_run hG Tryz.func4 (ro := []) (m := 40) [.eq 15 (eqB (gt8_true h1))] (by kernel_rfl)
def RRaw.digs (r : RRaw) : Prop := Dig r.lo.n ∧ Dig r.lo.d ∧ Dig r.hi.n ∧ Dig r.hi.d
theorem RRaw.short_ok {r : RRaw} (hd : r.digs) (h : r.short = true) : r.ok 8 := by
  unfold RRaw.short at h
  simp only [Bool.and_eq_true, decide_eq_true_eq] at h
  obtain ⟨d1, d2, d3, d4⟩ := hd
  exact ⟨⟨d1, d2, h.1, h.2.1, by omega⟩, ⟨d3, d4, h.2.2.1, h.2.2.2, by omega⟩⟩
theorem RRaw.isI {r : RRaw} {k : Nat} (h : r.ok k) : IsI k r.dat r.L r.H := ⟨r, rfl, h, rfl, rfl⟩

/-! ### Sizes of roots -/
theorem isqUp_le {T : Int} (h : 0 ≤ T) : (words (isqUp T).natAbs).length ≤ (words T.natAbs).length + 1 := by
  unfold isqUp
  have h1 := len_isq T.natAbs
  split
  · have := len_addI (a := ((isq T.natAbs : Nat) : Int)) (b := 1)
    have e1 : (words (1 : Int).natAbs).length = 1 := rfl
    rw [Int.natAbs_natCast] at this
    have h3 : 0 < (words T.natAbs).length ∨ T = 0 := by
      by_cases ht : T = 0
      · exact .inr ht
      · exact .inl (words_len_pos (by omega))
    rcases h3 with h3 | h3
    · omega
    · subst h3
      rename_i hlt
      rw [show (0 : Int).natAbs = 0 from rfl, isq_zero] at hlt
      exact absurd hlt (by omega)
  · rw [Int.natAbs_natCast]; omega
theorem SzQ.root {k b : Nat} {lo hi : Rat} (ha : SzQ k lo) (hb : SzQ k hi) (h0 : 0 ≤ hi) (hn : b ≤ 256) : SzQ (k + 18 + 1 + 9) (rootLo lo b) ∧ SzQ (k + 18 + 1 + 9) (rootHi hi b) := by
  have s2 := sz_twoQ hn
  have ssq : SzQ (9 + 9) (sqQ b) := s2.mul s2
  have la := sz_floor (ha.mul ssq)
  have lb := sz_floor (hb.mul ssq).neg
  have l1 := len_isq (lo * sqQ b).floor.natAbs
  have p3 : 0 ≤ -(-(hi * sqQ b)).floor := by
    have := floor_nonneg (Rat.mul_nonneg h0 (Rat.le_of_lt (sqQ_pos b)))
    rcases ceil_cases (hi * sqQ b) with ⟨e, -⟩ | ⟨e, -⟩ <;> omega
  have l2 := isqUp_le p3
  rw [Int.natAbs_neg] at l2
  unfold rootLo rootHi
  exact ⟨(sz_int (k := k + 18 + 1) (by omega) (by rw [Int.natAbs_natCast]; omega)).div s2, (sz_int (k := k + 18 + 1) (by omega) (by omega)).div s2⟩

/-! ### The statement -/
theorem sz_fr0 {k : Nat} (h : 0 < k) : SzQ k 0 := sz_zero h
end Lw
