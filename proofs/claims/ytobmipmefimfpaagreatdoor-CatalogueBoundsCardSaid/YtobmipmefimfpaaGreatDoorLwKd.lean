/- Checks of catalogues and of boxes: program and reference, run. No condition. -/
import Derived.Test.YtobmipmefimfpaaGreatDoorLwKc
namespace Lw
open Go Go.RowKit Go.Proofs

variable {G : World → Prop}

theorem eq_k {n k : Nat} : (Int.ofNat n == Int.ofNat k) = decide (n = k) := by
  by_cases h : n = k
  · subst h; simp
  · rw [decide_eq_false h, beq_eq_false_iff_ne]; intro e; exact h (Int.ofNat.inj e)
theorem cmp_leT {a b : Rat} (h : a ≤ b) : decide (cmpQ a b ≤ 0) = true := by
  unfold cmpQ
  by_cases h1 : a < b
  · rw [if_pos h1]; rfl
  · rw [if_neg h1, if_neg (Rat.not_lt.2 h)]; rfl
theorem cmp_leF {a b : Rat} (h : ¬ a ≤ b) : decide (cmpQ a b ≤ 0) = false := by
  have h2 := Rat.not_le.1 h
  unfold cmpQ
  rw [if_neg (fun g => h (Rat.le_of_lt g)), if_pos h2]; rfl
theorem cmp_geT {a b : Rat} (h : b ≤ a) : decide (cmpQ a b ≥ 0) = true := by
  unfold cmpQ
  rw [if_neg (Rat.not_lt.2 h)]
  split <;> rfl
theorem cmp_geF {a b : Rat} (h : ¬ b ≤ a) : decide (cmpQ a b ≥ 0) = false := by
  unfold cmpQ
  rw [if_pos (Rat.not_le.1 h)]; rfl
theorem pred_nat {j : Nat} (h : j < 9223372036854775807) : IntKind.wrap .i64 (Int.ofNat (j + 1) - 1) = Int.ofNat j := by
  rw [wrapS (by simp only [Int.ofNat_eq_natCast]; omega) (by simp only [Int.ofNat_eq_natCast]; omega)]; simp only [Int.ofNat_eq_natCast]; omega

/-! ### lists -/
def gd (l : List Raw) (i : Nat) : Bool := (l.getD i Raw.zero).valid && (decide (0 < (l.getD i Raw.zero).q) && (decide (i = 0) || decide ((l.getD (i - 1) Raw.zero).q < (l.getD i Raw.zero).q)))
def bd (l : List Raw) (i : Nat) : Int := if (l.getD i Raw.zero).valid = true then (if (l.getD i Raw.zero).q ≤ 0 then 3 else 12) else 2
/-- The number of the error of a list. -/
def lcode (l : List Raw) : Int := if l.length = 0 then 10 else if l.length ≤ 8 then (match firstN (gd l) l.length with | none => 0 | some i => bd l i) else 4
/-- What an element is. -/
theorem gd_cases (l : List Raw) (i : Nat) :
    (gd l i = false ∧ bd l i = 2 ∧ (l.getD i Raw.zero).valid = false) ∨
    (gd l i = false ∧ bd l i = 3 ∧ (l.getD i Raw.zero).valid = true ∧ (l.getD i Raw.zero).q ≤ 0) ∨
    (gd l i = false ∧ bd l i = 12 ∧ (l.getD i Raw.zero).valid = true ∧ ¬ (l.getD i Raw.zero).q ≤ 0 ∧ ∃ j, i = j + 1 ∧ (l.getD i Raw.zero).q ≤ (l.getD j Raw.zero).q) ∨
    (gd l i = true ∧ (l.getD i Raw.zero).valid = true ∧ ¬ (l.getD i Raw.zero).q ≤ 0 ∧ (i = 0 ∨ ∃ j, i = j + 1 ∧ ¬ (l.getD i Raw.zero).q ≤ (l.getD j Raw.zero).q)) := by
  unfold gd bd
  cases hv : (l.getD i Raw.zero).valid with
  | false => exact .inl ⟨rfl, rfl, rfl⟩
  | true =>
    by_cases hq : (l.getD i Raw.zero).q ≤ 0
    · exact .inr (.inl ⟨by rw [decide_eq_false (Rat.not_lt.2 hq)]; rfl, by rw [if_pos rfl, if_pos hq], rfl, hq⟩)
    · rw [decide_eq_true (Rat.not_le.1 hq), if_pos rfl, if_neg hq]
      cases i with
      | zero => exact .inr (.inr (.inr ⟨rfl, rfl, hq, .inl rfl⟩))
      | succ j =>
        by_cases ho : (l.getD (j + 1) Raw.zero).q ≤ (l.getD j Raw.zero).q
        · refine .inr (.inr (.inl ⟨?_, rfl, rfl, hq, j, rfl, ho⟩))
          rw [show j + 1 - 1 = j by omega, decide_eq_false (Rat.not_lt.2 ho), decide_eq_false (by omega)]; rfl
        · refine .inr (.inr (.inr ⟨?_, rfl, hq, .inr ⟨j, rfl, ho⟩⟩))
          rw [show j + 1 - 1 = j by omega, decide_eq_true (Rat.not_le.1 ho), Bool.or_true]; rfl
def ckInv (l : List Raw) (i : Nat) : St := lay 45 [(0, rowS Raw.cells l), (13, rowS Raw.cells l), (14, nat l.length), (15, nat i)] []
theorem ck_round (hG : Steady G) {l : List Raw} {i : Nat} (hi : i < l.length) (hb : l.length ≤ 9223372036854775807) {k : Nat} (hk : ∀ r ∈ l, r.ok k) (hkb : k ≤ KB) :
    (gd l i = true → Goes Tryz.prog G 0 (loopOf Tryz.f43 0) (ckInv l i) .normal (ckInv l (i + 1))) ∧
    (gd l i = false → Goes Tryz.prog G 0 (loopOf Tryz.f43 0) (ckInv l i) .ret (lay 45 [(2, errno (bd l i))] [])) := by
  have cs := gd_cases l i
  have e := aggS Raw.cells_len hi Raw.zero
  have ok := hk _ (getD_mem hi Raw.zero)
  have v := FValid_spec (G := G) hG ok hkb
  have s := FSign_spec (G := G) hG (Raw.ok.isQ ok) hkb
  have n1 := atS_need Raw.cells_len (by omega) hi
  have n2 := loadS_need Raw.cells_len (by omega) hi
  rcases cs with ⟨c1, c2, c3⟩ | ⟨c1, c2, c3, c4⟩ | ⟨c1, c2, c3, c4, j, rfl, c5⟩ | ⟨c1, c3, c4, rfl | ⟨j, rfl, c5⟩⟩
  · refine ⟨fun h => (by rw [c1] at h; cases h), fun _ => ?_⟩
    rw [c2]; rw [c3] at v
    generalize l.getD i Raw.zero = r at e v
    exact Goes.of_run hG (ro := []) (m := 60) (lay_len ..) [.eq 16 (Lw.eqB (lt_true hi)), .prop n1, .prop n2, .eq 19 e, .call v] (by kernel_rfl)
  · refine ⟨fun h => (by rw [c1] at h; cases h), fun _ => ?_⟩
    rw [c2]; rw [c3] at v
    generalize l.getD i Raw.zero = r at e v s c4
    exact Goes.of_run hG (ro := []) (m := 60) (lay_len ..) [.eq 16 (Lw.eqB (lt_true hi)), .prop n1, .prop n2, .eq 19 e, .call v, .call s, .eq 28 (Lw.eqB (sgn_le_true c4))] (by kernel_rfl)
  · refine ⟨fun h => (by rw [c1] at h; cases h), fun _ => ?_⟩
    have hj : j < l.length := by omega
    have e' := aggS Raw.cells_len hj Raw.zero
    have ok' := hk _ (getD_mem hj Raw.zero)
    have cm := FCmp_spec (G := G) hG (Raw.ok.isQ ok) (Raw.ok.isQ ok') hkb hkb
    have m1 := atS_need Raw.cells_len (by omega) hj
    have m2 := loadS_need Raw.cells_len (by omega) hj
    rw [c2]; rw [c3] at v
    generalize l.getD (j + 1) Raw.zero = r at e v s cm c4 c5
    generalize l.getD j Raw.zero = t at e' cm c5
    exact Goes.of_run hG (ro := []) (m := 60) (lay_len ..) [.eq 16 (Lw.eqB (lt_true hi)), .prop n1, .prop n2, .eq 19 e, .call v, .call s, .eq 28 (Lw.eqB (sgn_le_false c4)), .eq 32 (Lw.eqB (gtk_true (show ¬ j + 1 ≤ 0 by omega))), .eq 37 (eqS (pred_nat (j := j) (by omega))), .prop m1, .prop m2, .eq 39 e', .call cm, .eq 41 (Lw.eqB (cmp_leT c5))] (by kernel_rfl)
  · refine ⟨fun _ => ?_, fun h => by rw [c1] at h; cases h⟩
    rw [c3] at v
    generalize l.getD 0 Raw.zero = r at e v s c4
    exact Goes.of_run hG (ro := []) (m := 60) (lay_len ..) [.eq 16 (Lw.eqB (lt_true hi)), .prop n1, .prop n2, .eq 19 e, .call v, .call s, .eq 28 (Lw.eqB (sgn_le_false c4)), .eq 32 (Lw.eqB (gtk_false (Nat.le_refl 0))), .eq 44 (eqS (nat_succ' hi hb))] (by kernel_rfl)
  · refine ⟨fun _ => ?_, fun h => by rw [c1] at h; cases h⟩
    have hj : j < l.length := by omega
    have e' := aggS Raw.cells_len hj Raw.zero
    have ok' := hk _ (getD_mem hj Raw.zero)
    have cm := FCmp_spec (G := G) hG (Raw.ok.isQ ok) (Raw.ok.isQ ok') hkb hkb
    have m1 := atS_need Raw.cells_len (by omega) hj
    have m2 := loadS_need Raw.cells_len (by omega) hj
    rw [c3] at v
    generalize l.getD (j + 1) Raw.zero = r at e v s cm c4 c5
    generalize l.getD j Raw.zero = t at e' cm c5
    exact Goes.of_run hG (ro := []) (m := 60) (lay_len ..) [.eq 16 (Lw.eqB (lt_true hi)), .prop n1, .prop n2, .eq 19 e, .call v, .call s, .eq 28 (Lw.eqB (sgn_le_false c4)), .eq 32 (Lw.eqB (gtk_true (show ¬ j + 1 ≤ 0 by omega))), .eq 37 (eqS (pred_nat (j := j) (by omega))), .prop m1, .prop m2, .eq 39 e', .call cm, .eq 41 (Lw.eqB (cmp_leF c5)), .eq 44 (eqS (nat_succ' hi hb))] (by kernel_rfl)
theorem bd_ne (l : List Raw) (i : Nat) : bd l i ≠ 0 := by
  unfold bd
  split
  · split <;> decide
  · decide
theorem errOf_ne {k : Int} (h : k ≠ 0) : errOf k = errno k := if_neg h
theorem PList (hG : Steady G) {l : List Raw} (hb : l.length ≤ 9223372036854775807) {k : Nat} (hk : ∀ r ∈ l, r.ok k) (hkb : k ≤ KB) : Spec Tryz.prog G 43 [rowS Raw.cells l] (errOf (lcode l)) := by
  have e := eq_k (n := l.length) (k := 0)
  unfold lcode
  by_cases h1 : l.length = 0
  · rw [if_pos h1]
    rw [decide_eq_true h1] at e
    exact Spec.of_run hG Tryz.func43 (ro := []) (m := 60) [.eq 7 (Lw.eqB e)] (by kernel_rfl)
  · rw [if_neg h1]
    rw [decide_eq_false h1] at e
    by_cases h2 : l.length ≤ 8
    · rw [if_pos h2]
      rcases firstN_cases (gd l) l.length with ⟨g1, g2⟩ | ⟨i, g1, g2, g3, g4⟩
      · rw [g1]
        have lp := Abs.count (P := Tryz.prog) (Good := G) (gb := 0) (body := loopOf Tryz.f43 0) (e := .exit 0) (s' := ckInv l l.length) (fun i => ckInv l i) l.length (fun i => lay_len ..) (by intro h; cases h)
          (fun i hi => (ck_round hG hi hb hk hkb).1 (g2 i hi)) (Goes.of_run hG (ro := []) (m := 60) (lay_len ..) [.eq 16 (Lw.eqB (lt_false (Nat.le_refl l.length)))] (by kernel_rfl))
        exact Spec.of_run hG Tryz.func43 (ro := []) (m := 60) [.eq 7 (Lw.eqB e), .eq 11 (Lw.eqB (gtk_false h2)), .code lp] (by kernel_rfl)
      · rw [g1]
        simp only
        rw [errOf_ne (bd_ne l i)]
        have lp := Abs.count (P := Tryz.prog) (Good := G) (gb := 0) (body := loopOf Tryz.f43 0) (e := .ret) (s' := lay 45 [(2, errno (bd l i))] []) (fun i => ckInv l i) i (fun i => lay_len ..) (by intro h; cases h)
          (fun j hj => (ck_round hG (by omega) hb hk hkb).1 (g4 j hj)) ((ck_round hG g2 hb hk hkb).2 g3)
        exact Spec.of_run hG Tryz.func43 (ro := []) (m := 60) [.eq 7 (Lw.eqB e), .eq 11 (Lw.eqB (gtk_false h2)), .code lp] (by kernel_rfl)
    · rw [if_neg h2]
      exact Spec.of_run hG Tryz.func43 (ro := []) (m := 60) [.eq 7 (Lw.eqB e), .eq 11 (Lw.eqB (gtk_true h2))] (by kernel_rfl)

/-! ### the reference's list -/
def lastOf (l : List Raw) : Nat → List D
  | 0 => zeroF
  | i + 1 => (l.getD i Raw.zero).cells
def rckSt (x : RCt) (j : Nat) (l : List Raw) (i : Nat) (d : List D) : St := lay 64 [(1, .rptr x.cells), (9, x.lists), (10, nat j), (22, rowS Raw.cells l), (23, nat l.length), (24, nat i), (5, .ptr 0 0)] [(0, d)]
theorem rck_round (hG : Steady G) (x : RCt) (j : Nat) {l : List Raw} {i : Nat} (hi : i < l.length) (hb : l.length ≤ 9223372036854775807) {k : Nat} (hk : ∀ r ∈ l, r.ok k) (hkb : 2 * k < KB) :
    (gd l i = true → Goes Tryz.prog G 0 (loopOf Tryz.f13 1) (rckSt x j l i (lastOf l i)) .normal (rckSt x j l (i + 1) (lastOf l (i + 1)))) ∧
    (gd l i = false → Goes Tryz.prog G 0 (loopOf Tryz.f13 1) (rckSt x j l i (lastOf l i)) .ret (lay 64 [(2, int (bd l i))] [])) := by
  have cs := gd_cases l i
  have e := aggS Raw.cells_len hi Raw.zero
  have ok := hk _ (getD_mem hi Raw.zero)
  have v := RFValid_spec (G := G) hG ok (by omega)
  have s := RFSign_spec (G := G) hG (Raw.ok.isQ ok) (by omega)
  have n1 := atS_need Raw.cells_len (by omega) hi
  have n2 := loadS_need Raw.cells_len (by omega) hi
  rcases cs with ⟨c1, c2, c3⟩ | ⟨c1, c2, c3, c4⟩ | ⟨c1, c2, c3, c4, q, rfl, c5⟩ | ⟨c1, c3, c4, rfl | ⟨q, rfl, c5⟩⟩
  · refine ⟨fun h => (by rw [c1] at h; cases h), fun _ => ?_⟩
    rw [c2]; rw [c3] at v
    generalize lastOf l i = d
    generalize l.getD i Raw.zero = r at e v
    exact Goes.of_run hG (ro := []) (m := 60) (lay_len ..) [.eq 25 (Lw.eqB (lt_true hi)), .prop n1, .prop n2, .eq 28 e, .call v] (by kernel_rfl)
  · refine ⟨fun h => (by rw [c1] at h; cases h), fun _ => ?_⟩
    rw [c2]; rw [c3] at v
    generalize lastOf l i = d
    generalize l.getD i Raw.zero = r at e v s c4
    exact Goes.of_run hG (ro := []) (m := 60) (lay_len ..) [.eq 25 (Lw.eqB (lt_true hi)), .prop n1, .prop n2, .eq 28 e, .call v, .call s, .eq 36 (Lw.eqB (sgn_le_true c4))] (by kernel_rfl)
  · refine ⟨fun h => (by rw [c1] at h; cases h), fun _ => ?_⟩
    have hj : q < l.length := by omega
    have ok' := hk _ (getD_mem hj Raw.zero)
    have cm := RFCmp_spec (G := G) hG (Raw.ok.isQ ok') (Raw.ok.isQ ok) (by omega)
    rw [c2]; rw [c3] at v
    show Goes _ _ _ _ (rckSt x j l (q + 1) (l.getD q Raw.zero).cells) _ _
    generalize l.getD (q + 1) Raw.zero = r at e v s cm c4 c5
    generalize l.getD q Raw.zero = t at cm c5
    exact Goes.of_run hG (ro := []) (m := 60) (lay_len ..) [.eq 25 (Lw.eqB (lt_true hi)), .prop n1, .prop n2, .eq 28 e, .call v, .call s, .eq 36 (Lw.eqB (sgn_le_false c4)), .eq 39 (Lw.eqB (gtk_true (show ¬ q + 1 ≤ 0 by omega))), .call cm, .eq 44 (Lw.eqB (cmp_geT c5))] (by kernel_rfl)
  · refine ⟨fun _ => ?_, fun h => by rw [c1] at h; cases h⟩
    rw [c3] at v
    show Goes _ _ _ _ (rckSt x j l 0 zeroF) _ (rckSt x j l 1 (l.getD 0 Raw.zero).cells)
    generalize l.getD 0 Raw.zero = r at e v s c4
    exact Goes.of_run hG (ro := []) (m := 60) (lay_len ..) [.eq 25 (Lw.eqB (lt_true hi)), .prop n1, .prop n2, .eq 28 e, .call v, .call s, .eq 36 (Lw.eqB (sgn_le_false c4)), .eq 39 (Lw.eqB (gtk_false (Nat.le_refl 0))), .eq 47 (eqS (nat_succ' hi hb))] (by kernel_rfl)
  · refine ⟨fun _ => ?_, fun h => by rw [c1] at h; cases h⟩
    have hj : q < l.length := by omega
    have ok' := hk _ (getD_mem hj Raw.zero)
    have cm := RFCmp_spec (G := G) hG (Raw.ok.isQ ok') (Raw.ok.isQ ok) (by omega)
    rw [c3] at v
    show Goes _ _ _ _ (rckSt x j l (q + 1) (l.getD q Raw.zero).cells) _ (rckSt x j l (q + 1 + 1) (l.getD (q + 1) Raw.zero).cells)
    generalize l.getD (q + 1) Raw.zero = r at e v s cm c4 c5
    generalize l.getD q Raw.zero = t at cm c5
    exact Goes.of_run hG (ro := []) (m := 60) (lay_len ..) [.eq 25 (Lw.eqB (lt_true hi)), .prop n1, .prop n2, .eq 28 e, .call v, .call s, .eq 36 (Lw.eqB (sgn_le_false c4)), .eq 39 (Lw.eqB (gtk_true (show ¬ q + 1 ≤ 0 by omega))), .call cm, .eq 44 (Lw.eqB (cmp_geF c5)), .eq 47 (eqS (nat_succ' hi hb))] (by kernel_rfl)
def rckOut (x : RCt) (j : Nat) : St := lay 64 [(1, .rptr x.cells), (9, x.lists), (10, nat j)] []
theorem rck_out (hG : Steady G) {x : RCt} (hb : x.far) {j : Nat} (hj : j < 4) {k : Nat} (hk : ∀ r ∈ x.list j, r.ok k) (hkb : 2 * k < KB) :
    (lcode (x.list j) = 0 → Goes Tryz.prog G 0 (loopOf Tryz.f13 0) (rckOut x j) .normal (rckOut x (j + 1))) ∧
    (lcode (x.list j) ≠ 0 → Goes Tryz.prog G 0 (loopOf Tryz.f13 0) (rckOut x j) .ret (lay 64 [(2, int (lcode (x.list j)))] [])) := by
  have e := eq_k (n := (x.list j).length) (k := 0)
  have hf := RCt.list_far hb j
  unfold lcode
  by_cases h1 : (x.list j).length = 0
  · rw [if_pos h1]
    rw [decide_eq_true h1] at e
    refine ⟨fun h => (by cases h), fun _ => ?_⟩
    have e := Lw.eqB e
    rcases four_cases hj with rfl | rfl | rfl | rfl <;> exact Goes.of_run hG (ro := []) (m := 60) (lay_len ..) [.eq 16 e] (by kernel_rfl)
  · rw [if_neg h1]
    rw [decide_eq_false h1] at e
    have e := Lw.eqB e
    by_cases h2 : (x.list j).length ≤ 8
    · rw [if_pos h2]
      have e2 := Lw.eqB (gtk_false h2)
      rcases firstN_cases (gd (x.list j)) (x.list j).length with ⟨g1, g2⟩ | ⟨i, g1, g2, g3, g4⟩
      · rw [g1]
        refine ⟨fun _ => ?_, fun h => absurd rfl h⟩
        have lp := Abs.count (P := Tryz.prog) (Good := G) (gb := 0) (body := loopOf Tryz.f13 1) (e := .exit 3) (s' := rckSt x j (x.list j) (x.list j).length (lastOf (x.list j) (x.list j).length)) (fun i => rckSt x j (x.list j) i (lastOf (x.list j) i)) (x.list j).length (fun i => lay_len ..) (by intro h; cases h)
          (fun i hi => (rck_round hG x j hi hf hk hkb).1 (g2 i hi)) (by generalize lastOf (x.list j) (x.list j).length = d; exact Goes.of_run hG (ro := []) (m := 60) (lay_len ..) [.eq 25 (Lw.eqB (lt_false (Nat.le_refl (x.list j).length)))] (by kernel_rfl))
        generalize lastOf (x.list j) (x.list j).length = d at lp
        rcases four_cases hj with rfl | rfl | rfl | rfl <;> exact Goes.of_run hG (ro := []) (m := 60) (lay_len ..) [.eq 16 e, .eq 20 e2, .code lp] (by kernel_rfl)
      · rw [g1]
        refine ⟨fun h => absurd h (bd_ne _ i), fun _ => ?_⟩
        show Goes _ _ _ _ _ _ (lay 64 [(2, int (bd (x.list j) i))] [])
        have lp := Abs.count (P := Tryz.prog) (Good := G) (gb := 0) (body := loopOf Tryz.f13 1) (e := .ret) (s' := lay 64 [(2, int (bd (x.list j) i))] []) (fun i => rckSt x j (x.list j) i (lastOf (x.list j) i)) i (fun i => lay_len ..) (by intro h; cases h)
          (fun q hq => (rck_round hG x j (by omega) hf hk hkb).1 (g4 q hq)) ((rck_round hG x j g2 hf hk hkb).2 g3)
        generalize bd (x.list j) i = c at lp
        rcases four_cases hj with rfl | rfl | rfl | rfl <;> exact Goes.of_run hG (ro := []) (m := 60) (lay_len ..) [.eq 16 e, .eq 20 e2, .code lp] (by kernel_rfl)
    · rw [if_neg h2]
      refine ⟨fun h => (by cases h), fun _ => ?_⟩
      have e2 := Lw.eqB (gtk_true h2)
      rcases four_cases hj with rfl | rfl | rfl | rfl <;> exact Goes.of_run hG (ro := []) (m := 60) (lay_len ..) [.eq 16 e, .eq 20 e2] (by kernel_rfl)

/-! ### the whole check -/
/-- The number of the error of the pairs. -/
def pcode (l : List RPr) : Int := if l.length = 0 then 10 else if l.length ≤ 4 then (if allValid l then 0 else 2) else 4
/-- The number of the error of a catalogue. -/
def RCt.code (x : RCt) : Int := match firstN (fun j => decide (lcode (x.list j) = 0)) 4 with | some j => lcode (x.list j) | none => pcode x.p
theorem RCheck (hG : Steady G) {x : RCt} (hd : x.digs) (hb : x.far) (hs : x.short) : Spec Tryz.prog G 13 [x.dat] (int x.code) := by
  have kb := KB_eq
  have lk : ∀ j, j < 4 → ∀ r ∈ x.list j, r.ok 1 := fun j hj => RCt.list_ok hd hs hj
  unfold RCt.code
  rcases firstN_cases (fun j => decide (lcode (x.list j) = 0)) 4 with ⟨h0, h⟩ | ⟨j, h0, h1, h2, h3⟩
  · rw [h0]
    have lo := Abs.count (P := Tryz.prog) (Good := G) (gb := 0) (body := loopOf Tryz.f13 0) (e := .exit 0) (s' := rckOut x 4) (fun i => rckOut x i) 4 (fun i => lay_len ..) (by intro h; cases h)
      (fun j hj => (rck_out hG hb hj (lk j hj) (by omega)).1 (of_decide_eq_true (h j hj))) (Goes.of_run hG (ro := []) (m := 60) (lay_len ..) [] (by kernel_rfl))
    have e := eq_k (n := x.p.length) (k := 0)
    unfold pcode
    by_cases h1 : x.p.length = 0
    · rw [if_pos h1]
      rw [decide_eq_true h1] at e
      exact Spec.of_run hG Tryz.func13 (ro := [1]) (m := 60) [.call (CLists hG x), .code lo, .eq 53 (Lw.eqB e)] (by kernel_rfl)
    · rw [if_neg h1]
      rw [decide_eq_false h1] at e
      by_cases h2 : x.p.length ≤ 4
      · rw [if_pos h2]
        have ps := RPairs (G := G) hG hb.2.2.2.2 (RCt.pairs_ok hd hs) (by omega)
        by_cases h3 : allValid x.p
        · rw [if_pos h3]
          rw [decide_eq_true h3] at ps
          exact Spec.of_run hG Tryz.func13 (ro := [1]) (m := 60) [.call (CLists hG x), .code lo, .eq 53 (Lw.eqB e), .eq 58 (Lw.eqB (gtk_false h2)), .call ps] (by kernel_rfl)
        · rw [if_neg h3]
          rw [decide_eq_false h3] at ps
          exact Spec.of_run hG Tryz.func13 (ro := [1]) (m := 60) [.call (CLists hG x), .code lo, .eq 53 (Lw.eqB e), .eq 58 (Lw.eqB (gtk_false h2)), .call ps] (by kernel_rfl)
      · rw [if_neg h2]
        exact Spec.of_run hG Tryz.func13 (ro := [1]) (m := 60) [.call (CLists hG x), .code lo, .eq 53 (Lw.eqB e), .eq 58 (Lw.eqB (gtk_true h2))] (by kernel_rfl)
  · rw [h0]
    show Spec _ _ _ _ (int (lcode (x.list j)))
    have lo := Abs.count (P := Tryz.prog) (Good := G) (gb := 0) (body := loopOf Tryz.f13 0) (e := .ret) (s' := lay 64 [(2, int (lcode (x.list j)))] []) (fun i => rckOut x i) j (fun i => lay_len ..) (by intro h; cases h)
      (fun q hq => (rck_out hG hb (by omega) (lk q (by omega)) (by omega)).1 (of_decide_eq_true (h3 q hq))) ((rck_out hG hb h1 (lk j h1) (by omega)).2 (of_decide_eq_false h2))
    generalize lcode (x.list j) = c at lo
    exact Spec.of_run hG Tryz.func13 (ro := [1]) (m := 60) [.call (CLists hG x), .code lo] (by kernel_rfl)
def pckOut (x : RCt) (j : Nat) : St := lay 48 [(1, .rptr x.cells), (9, x.lists), (10, nat j)] []
theorem pck_out (hG : Steady G) {x : RCt} (hb : x.far) {j : Nat} (hj : j < 4) {k : Nat} (hk : ∀ r ∈ x.list j, r.ok k) (hkb : k ≤ KB) :
    (lcode (x.list j) = 0 → Goes Tryz.prog G 0 (loopOf Tryz.f15 0) (pckOut x j) .normal (pckOut x (j + 1))) ∧
    (lcode (x.list j) ≠ 0 → Goes Tryz.prog G 0 (loopOf Tryz.f15 0) (pckOut x j) .ret (lay 48 [(2, errno (lcode (x.list j)))] [])) := by
  have pl := PList (G := G) hG (RCt.list_far hb j) hk hkb
  constructor
  · intro h
    rw [h] at pl
    rcases four_cases hj with rfl | rfl | rfl | rfl <;> exact Goes.of_run hG (ro := []) (m := 60) (lay_len ..) [.call pl] (by kernel_rfl)
  · intro h
    rw [errOf_ne h] at pl
    generalize hc : lcode (x.list j) = c at pl
    clear hc h
    rcases four_cases hj with rfl | rfl | rfl | rfl <;> exact Goes.of_run hG (ro := []) (m := 60) (lay_len ..) [.call pl] (by kernel_rfl)
def pcpInv (l : List RPr) (i : Nat) : St := lay 48 [(30, rowS RPr.cells l), (31, nat l.length), (32, nat i)] []
theorem pcp_round (hG : Steady G) {l : List RPr} {i : Nat} (hi : i < l.length) (hb : l.length ≤ 9223372036854775807) {k : Nat} (hk : ∀ r ∈ l, r.ok k) (hkb : k ≤ KB) :
    ((l.getD i RPr.zero).valid = true → Goes Tryz.prog G 0 (loopOf Tryz.f15 1) (pcpInv l i) .normal (pcpInv l (i + 1))) ∧
    ((l.getD i RPr.zero).valid = false → Goes Tryz.prog G 0 (loopOf Tryz.f15 1) (pcpInv l i) .ret (lay 48 [(2, errno 2)] [])) := by
  have e := aggS RPr.cells_len hi RPr.zero
  have ok := hk _ (getD_mem hi RPr.zero)
  have n1 := atS_need RPr.cells_len (by omega) hi
  have n2 := loadS_need RPr.cells_len (by omega) hi
  generalize l.getD i RPr.zero = r at e ok
  cases h1 : r.i.valid with
  | false =>
    have hv : r.valid = false := by unfold RPr.valid; rw [h1]; rfl
    refine ⟨fun h => (by rw [hv] at h; cases h), fun _ => ?_⟩
    have c1 := TCheck_bad (G := G) hG ok.1 hkb h1
    exact Goes.of_run hG (ro := []) (m := 60) (lay_len ..) [.eq 33 (Lw.eqB (lt_true hi)), .prop n1, .prop n2, .eq 35 e, .call c1] (by kernel_rfl)
  | true =>
    have c1 := TCheck_ok (G := G) hG ok.1 hkb h1
    cases h2 : r.o.valid with
    | false =>
      have hv : r.valid = false := by unfold RPr.valid; rw [h2, Bool.and_false]
      refine ⟨fun h => (by rw [hv] at h; cases h), fun _ => ?_⟩
      have c2 := TCheck_bad (G := G) hG ok.2 hkb h2
      exact Goes.of_run hG (ro := []) (m := 60) (lay_len ..) [.eq 33 (Lw.eqB (lt_true hi)), .prop n1, .prop n2, .eq 35 e, .call c1, .call c2] (by kernel_rfl)
    | true =>
      have hv : r.valid = true := by unfold RPr.valid; rw [h1, h2]; rfl
      refine ⟨fun _ => ?_, fun h => by rw [hv] at h; cases h⟩
      have c2 := TCheck_ok (G := G) hG ok.2 hkb h2
      exact Goes.of_run hG (ro := []) (m := 60) (lay_len ..) [.eq 33 (Lw.eqB (lt_true hi)), .prop n1, .prop n2, .eq 35 e, .call c1, .call c2, .eq 47 (eqS (nat_succ' hi hb))] (by kernel_rfl)
theorem PCheck (hG : Steady G) {x : RCt} (hd : x.digs) (hb : x.far) (hs : x.short) : Spec Tryz.prog G 15 [x.dat] (errOf x.code) := by
  have kb := KB_eq
  have lk : ∀ j, j < 4 → ∀ r ∈ x.list j, r.ok 1 := fun j hj => RCt.list_ok hd hs hj
  have pk := RCt.pairs_ok hd hs
  unfold RCt.code
  rcases firstN_cases (fun j => decide (lcode (x.list j) = 0)) 4 with ⟨h0, h⟩ | ⟨j, h0, h1, h2, h3⟩
  · rw [h0]
    have lo := Abs.count (P := Tryz.prog) (Good := G) (gb := 0) (body := loopOf Tryz.f15 0) (e := .exit 0) (s' := pckOut x 4) (fun i => pckOut x i) 4 (fun i => lay_len ..) (by intro h; cases h)
      (fun j hj => (pck_out hG hb hj (lk j hj) (by omega)).1 (of_decide_eq_true (h j hj))) (Goes.of_run hG (ro := []) (m := 60) (lay_len ..) [] (by kernel_rfl))
    have e := eq_k (n := x.p.length) (k := 0)
    unfold pcode
    by_cases h1 : x.p.length = 0
    · rw [if_pos h1]
      rw [decide_eq_true h1] at e
      exact Spec.of_run hG Tryz.func15 (ro := [1]) (m := 60) [.call (PLists_spec hG x), .code lo, .eq 22 (Lw.eqB e)] (by kernel_rfl)
    · rw [if_neg h1]
      rw [decide_eq_false h1] at e
      by_cases h2 : x.p.length ≤ 4
      · rw [if_pos h2]
        rcases all_or_first (fun r => RPr.valid r = true) RPr.zero x.p with g | ⟨i, g1, g2, g3⟩
        · rw [if_pos (show allValid x.p from g)]
          have lp := Abs.count (P := Tryz.prog) (Good := G) (gb := 0) (body := loopOf Tryz.f15 1) (e := .exit 2) (s' := pcpInv x.p x.p.length) (fun i => pcpInv x.p i) x.p.length (fun i => lay_len ..) (by intro h; cases h)
            (fun i hi => (pcp_round hG hi hb.2.2.2.2 pk (by omega)).1 (g _ (getD_mem hi _))) (Goes.of_run hG (ro := []) (m := 60) (lay_len ..) [.eq 33 (Lw.eqB (lt_false (Nat.le_refl x.p.length)))] (by kernel_rfl))
          exact Spec.of_run hG Tryz.func15 (ro := [1]) (m := 60) [.call (PLists_spec hG x), .code lo, .eq 22 (Lw.eqB e), .eq 27 (Lw.eqB (gtk_false h2)), .code lp] (by kernel_rfl)
        · rw [if_neg (show ¬ allValid x.p from fun h => g2 (h _ (getD_mem g1 _)))]
          have lp := Abs.count (P := Tryz.prog) (Good := G) (gb := 0) (body := loopOf Tryz.f15 1) (e := .ret) (s' := lay 48 [(2, errno 2)] []) (fun i => pcpInv x.p i) i (fun i => lay_len ..) (by intro h; cases h)
            (fun j hj => (pcp_round hG (by omega) hb.2.2.2.2 pk (by omega)).1 (g3 j hj)) ((pcp_round hG g1 hb.2.2.2.2 pk (by omega)).2 (by simpa using g2))
          exact Spec.of_run hG Tryz.func15 (ro := [1]) (m := 60) [.call (PLists_spec hG x), .code lo, .eq 22 (Lw.eqB e), .eq 27 (Lw.eqB (gtk_false h2)), .code lp] (by kernel_rfl)
      · rw [if_neg h2]
        exact Spec.of_run hG Tryz.func15 (ro := [1]) (m := 60) [.call (PLists_spec hG x), .code lo, .eq 22 (Lw.eqB e), .eq 27 (Lw.eqB (gtk_true h2))] (by kernel_rfl)
  · rw [h0]
    have hne := of_decide_eq_false h2
    show Spec _ _ _ _ (errOf (lcode (x.list j)))
    have lo := Abs.count (P := Tryz.prog) (Good := G) (gb := 0) (body := loopOf Tryz.f15 0) (e := .ret) (s' := lay 48 [(2, errno (lcode (x.list j)))] []) (fun i => pckOut x i) j (fun i => lay_len ..) (by intro h; cases h)
      (fun q hq => (pck_out hG hb (by omega) (lk q (by omega)) (by omega)).1 (of_decide_eq_true (h3 q hq))) ((pck_out hG hb h1 (lk j h1) (by omega)).2 hne)
    rw [errOf_ne hne]
    generalize lcode (x.list j) = c at lo
    exact Spec.of_run hG Tryz.func15 (ro := [1]) (m := 60) [.call (PLists_spec hG x), .code lo] (by kernel_rfl)
end Lw
