/- The statement about grids and roots of intervals, run. No condition. -/
import Derived.Test.YtcdhaaadohmcoaaGreatDoorLwTa
namespace Lw
open Go Go.RowKit Go.Proofs

variable {G : World → Prop}

/-! ### short -/
def RRaw.cells (r : RRaw) : List D := [bool r.lo.s, rowW r.lo.n, rowW r.lo.d, bool r.hi.s, rowW r.hi.n, rowW r.hi.d]
def RRaw.short (r : RRaw) : Bool := decide (r.lo.n.length ≤ 8) && (decide (r.lo.d.length ≤ 8) && (decide (r.hi.n.length ≤ 8) && decide (r.hi.d.length ≤ 8)))
theorem gt8_true {n : Nat} (h : ¬ n ≤ 8) : decide (Int.ofNat n > 8) = true := by simp only [Int.ofNat_eq_natCast, decide_eq_true_eq]; omega
theorem gt8_false {n : Nat} (h : n ≤ 8) : decide (Int.ofNat n > 8) = false := by simp only [Int.ofNat_eq_natCast, decide_eq_false_iff_not]; omega
theorem short_one (hG : Steady G) (r : RRaw) : Spec Tryz.prog G 10 [.row 1 false r.cells] (bool r.short) := by
  unfold RRaw.short
  by_cases h1 : r.lo.n.length ≤ 8
  · rw [decide_eq_true h1]
    by_cases h2 : r.lo.d.length ≤ 8
    · rw [decide_eq_true h2]
      by_cases h3 : r.hi.n.length ≤ 8
      · rw [decide_eq_true h3]
        by_cases h4 : r.hi.d.length ≤ 8
        · rw [decide_eq_true h4]
          exact Spec.of_run hG Tryz.func10 (ro := []) (m := 40) [.eq 15 (eqB (gt8_false h1)), .eq 21 (eqB (gt8_false h2)), .eq 28 (eqB (gt8_false h3)), .eq 35 (eqB (gt8_false h4))] (by kernel_rfl)
        · rw [decide_eq_false h4]
          exact Spec.of_run hG Tryz.func10 (ro := []) (m := 40) [.eq 15 (eqB (gt8_false h1)), .eq 21 (eqB (gt8_false h2)), .eq 28 (eqB (gt8_false h3)), .eq 35 (eqB (gt8_true h4))] (by kernel_rfl)
      · rw [decide_eq_false h3]
        exact Spec.of_run hG Tryz.func10 (ro := []) (m := 40) [.eq 15 (eqB (gt8_false h1)), .eq 21 (eqB (gt8_false h2)), .eq 28 (eqB (gt8_true h3))] (by kernel_rfl)
    · rw [decide_eq_false h2]
      exact Spec.of_run hG Tryz.func10 (ro := []) (m := 40) [.eq 15 (eqB (gt8_false h1)), .eq 21 (eqB (gt8_true h2))] (by kernel_rfl)
  · rw [decide_eq_false h1]
    exact Spec.of_run hG Tryz.func10 (ro := []) (m := 40) [.eq 15 (eqB (gt8_true h1))] (by kernel_rfl)
def RRaw.digs (r : RRaw) : Prop := Dig r.lo.n ∧ Dig r.lo.d ∧ Dig r.hi.n ∧ Dig r.hi.d
theorem RRaw.short_ok {r : RRaw} (hd : r.digs) (h : r.short = true) : r.ok 8 := by
  unfold RRaw.short at h
  simp only [Bool.and_eq_true, decide_eq_true_eq] at h
  obtain ⟨d1, d2, d3, d4⟩ := hd
  exact ⟨⟨d1, d2, h.1, h.2.1, by omega⟩, ⟨d3, d4, h.2.2.1, h.2.2.2, by omega⟩⟩
theorem RRaw.isI {r : RRaw} {k : Nat} (h : r.ok k) : IsI k r.dat r.L r.H := ⟨r, rfl, h, rfl, rfl⟩

/-! ### Sizes of roots -/
theorem isqUp_le {T : Int} (h : 0 ≤ T) : (words (isqUp T).natAbs).length ≤ (words T.natAbs).length + 1 := by
  unfold isqUp
  have h1 := len_isq T.natAbs
  split
  · have := len_addI (a := ((isq T.natAbs : Nat) : Int)) (b := 1)
    have e1 : (words (1 : Int).natAbs).length = 1 := rfl
    rw [Int.natAbs_natCast] at this
    have h3 : 0 < (words T.natAbs).length ∨ T = 0 := by
      by_cases ht : T = 0
      · exact .inr ht
      · exact .inl (words_len_pos (by omega))
    rcases h3 with h3 | h3
    · omega
    · subst h3
      rename_i hlt
      rw [show (0 : Int).natAbs = 0 from rfl, isq_zero] at hlt
      exact absurd hlt (by omega)
  · rw [Int.natAbs_natCast]; omega
theorem SzQ.root {k b : Nat} {lo hi : Rat} (ha : SzQ k lo) (hb : SzQ k hi) (h0 : 0 ≤ hi) (hn : b ≤ 256) : SzQ (k + 18 + 1 + 9) (rootLo lo b) ∧ SzQ (k + 18 + 1 + 9) (rootHi hi b) := by
  have s2 := sz_twoQ hn
  have ssq : SzQ (9 + 9) (sqQ b) := s2.mul s2
  have la := sz_floor (ha.mul ssq)
  have lb := sz_floor (hb.mul ssq).neg
  have l1 := len_isq (lo * sqQ b).floor.natAbs
  have p3 : 0 ≤ -(-(hi * sqQ b)).floor := by
    have := floor_nonneg (Rat.mul_nonneg h0 (Rat.le_of_lt (sqQ_pos b)))
    rcases ceil_cases (hi * sqQ b) with ⟨e, -⟩ | ⟨e, -⟩ <;> omega
  have l2 := isqUp_le p3
  rw [Int.natAbs_neg] at l2
  unfold rootLo rootHi
  exact ⟨(sz_int (k := k + 18 + 1) (by omega) (by rw [Int.natAbs_natCast]; omega)).div s2, (sz_int (k := k + 18 + 1) (by omega) (by omega)).div s2⟩

/-! ### The statement -/
theorem Rounds_long (hG : Steady G) (r : RRaw) (h : r.short = false) (b : Int) : Spec Tryz.prog G 3 [r.dat, int b] (bool true) := by
  have s := short_one (G := G) hG r
  rw [h] at s
  exact Spec.of_run hG Tryz.func3 (ro := [2]) (m := 60) [.call s, .call (awake_spec hG)] (by kernel_rfl)
theorem sz_fr0 {k : Nat} (h : 0 < k) : SzQ k 0 := sz_zero h
theorem Rounds_spec (hG : Steady G) {r : RRaw} (hd : r.digs) (b : Int) : Spec Tryz.prog G 3 [r.dat, int b] (bool true) := by
  cases hs : r.short with
  | false => exact Rounds_long hG r hs b
  | true =>
    have s := short_one (G := G) hG r
    rw [hs] at s
    have hr := RRaw.short_ok hd hs
    have hi := RRaw.isI hr
    obtain ⟨sa, sb⟩ := hi.szL
    have kb := KB_eq
    have z0 := SameI_refl (G := G) hG (sz_zero (k := 1) (by omega)) (sz_zero (k := 1) (by omega)) (by omega)
    by_cases hb : b < 0 ∨ 256 < b
    · exact Spec.of_run hG Tryz.func3 (ro := [2]) (m := 60)
        [.call s, .call (awake_spec hG), .call (Out_bad hG hi (by omega) hb), .call (IRoot_bad hG r hb), .call (ROut_bad hG hi (by omega) hb), .call (RIRoot_bad hG r hb), .call (Num_err hG 3), .call z0, .call (Num_err hG 3), .call z0] (by kernel_rfl)
    · obtain ⟨n, rfl⟩ : ∃ n : Nat, b = Int.ofNat n := ⟨b.toNat, by simp only [Int.ofNat_eq_natCast]; omega⟩
      have hn : n ≤ 256 := by simp only [Int.ofNat_eq_natCast] at hb; omega
      have o1 := Out_spec hG hi (by omega) hn
      have o2 := ROut_spec hG hi (by omega) hn
      have so := SameI_refl (G := G) hG (sa.grid hn) (sb.neg.grid hn).neg (by omega)
      by_cases h0 : r.L < 0
      · exact Spec.of_run hG Tryz.func3 (ro := [2]) (m := 60)
          [.call s, .call (awake_spec hG), .call o1, .call (IRoot_low hG hi (by omega) hn h0), .call o2, .call (RIRoot_low hG hi (by omega) hn h0), .call (Num_nil hG), .call so, .call (Num_err hG 3), .call z0] (by kernel_rfl)
      · have h0' := rat_le_neg h0
        have r1 := IRoot_spec hG hi (by rw [RK_eq]; omega) hn h0'
        have r2 := RIRoot_spec hG hi (by rw [RK_eq]; omega) hn h0'
        obtain ⟨t1, t2⟩ := SzQ.root sa sb (Rat.le_trans h0' hi.le) hn
        have sr := SameI_refl (G := G) hG t1 t2 (by omega)
        exact Spec.of_run hG Tryz.func3 (ro := [2]) (m := 60)
          [.call s, .call (awake_spec hG), .call o1, .call r1, .call o2, .call r2, .call (Num_nil hG), .call so, .call (Num_nil hG), .call sr] (by kernel_rfl)
end Lw
