/- The reference's text of an integer, of a fraction, of an interval; the program's text of an interval. No condition; where the table of Itoa lies. -/
import Derived.Test.YticigjdakdbbjaaGreatDoorLwWe
namespace Lw
open Go Go.RowKit Go.Proofs Go.Lib

variable {G : World → Prop}

theorem rt_last (hG : Steady G) {s : Bool} {n : Nat} {l : List UInt8} : Goes Tryz.prog G 0 (loopOf Tryz.f90 0) (rtSt s n 0 l) (.exit 0) (rtSt s n 0 l) :=
  Goes.of_run hG (ro := []) (m := 60) (lay_len ..) [] (by kernel_rfl)
theorem rt_loop (hG : Steady G) {s : Bool} {n : Nat} (hn : (words n).length ≤ 1073741824) (h0 : 0 < n) :
    Abs Tryz.prog G 73 0 (.loop (loopOf Tryz.f90 0)) (rtSt s n n []) (.exit 0) (rtSt s n 0 (decDigits n)) := by
  have hdl := dig_few hn (by omega)
  refine Abs.rounds (P := Tryz.prog) (Good := G) (gb := 0) (body := loopOf Tryz.f90 0) (ι := Nat × List UInt8) (e := .exit 0) (s' := rtSt s n 0 (decDigits n))
    (fun i => (if i.1 = 0 then [] else decDigits i.1) ++ i.2 = decDigits n ∧ i.1 ≤ n) (fun i => rtSt s n i.1 i.2) (fun i => i.1) (fun i => lay_len ..) (by intro h; cases h) ?_ (n, []) ⟨by rw [if_neg (by simp only; omega), List.append_nil], Nat.le_refl _⟩
  rintro ⟨v, l⟩ ⟨h1, h2⟩
  simp only at h1 h2
  by_cases hv : v = 0
  · subst hv
    rw [if_pos rfl, List.nil_append] at h1
    subst h1
    exact .inr (rt_last hG)
  · rw [if_neg hv] at h1
    have hll : l.length ≤ 1000000000000 := by
      have := congrArg List.length h1
      rw [List.length_append] at this
      omega
    refine .inl ⟨(v / 1000000000, grpOf v ++ l), ⟨?_, by simp only; omega⟩, by simp only; omega, rt_round hG (by omega) (Nat.le_trans (len_mono h2) hn) hll⟩
    simp only
    rw [← h1, ← List.append_assoc]
    congr 1
    unfold grpOf
    by_cases g : v / 1000000000 = 0
    · rw [if_pos g, if_pos g, Nat.mod_eq_of_lt (by omega)]; rfl
    · rw [if_neg g, if_neg g, ← dec_group g]
/-- The reference's text of an integer. -/
theorem RText_spec (hG : Steady G) {s : Bool} {n : Nat} (hs : s = true → 0 < n) (hn : (words n).length ≤ 1073741824) : Spec Tryz.prog G 90 [wv s n] (txt (decT s n)) := by
  have h36 : (2:Nat) ^ 36 = 68719476736 := by decide
  have mg := rmag_spec (G := G) hG hs (by omega)
  by_cases h0 : n = 0
  · subst h0
    cases s with
    | true => exact absurd (hs rfl) (by omega)
    | false => exact Spec.of_run hG Tryz.func90 (ro := [1]) (m := 60) [.call mg] (by kernel_rfl)
  · have ng := rneg_spec (G := G) hG hs (by omega)
    have lp := rt_loop (G := G) hG (s := s) hn (by omega)
    have e0 := words_ne (n := n) (by omega)
    have hd := dig_few hn (by omega)
    unfold decT
    generalize decDigits n = P at lp hd
    cases s with
    | true => exact Spec.of_run hG Tryz.func90 (ro := [1]) (m := 60) [.call mg, .eq 13 (Lw.eqB e0), .code lp, .call ng, .prop (cat_need [45] P (by simp only [List.length_cons, List.length_nil]; omega)), .eq 71 (cat_tx [45] P)] (by kernel_rfl)
    | false => exact Spec.of_run hG Tryz.func90 (ro := [1]) (m := 60) [.call mg, .eq 13 (Lw.eqB e0), .code lp, .call ng] (by kernel_rfl)
theorem RWText_spec (hG : Steady G) {i : Int} (hn : (words i.natAbs).length ≤ 1073741824) : Spec Tryz.prog G 90 [W i] (txt (intT i)) :=
  RText_spec hG (fun h => by have := of_decide_eq_true h; omega) hn
theorem RFTextS (hG : Steady G) {k : Nat} {q : Rat} (s : SzQ k q) (hk : k ≤ KB) : Spec Tryz.prog G 52 [F q] (txt (fracT q)) := by
  have kb := KB_eq
  have p1 := s.isQ.rparts (G := G) hG hk
  obtain ⟨h1, h2, h3⟩ := s
  have e30 : (2:Nat) ^ 30 = 1073741824 := by decide
  have hdl : (words q.den).length < 2 ^ 30 := by omega
  have c := RCmp_spec (G := G) hG (i := (q.den : Int)) (j := 1) hdl (by decide +kernel)
  have e := cmp_one q.den
  have t1 := RWText_spec (G := G) hG (i := q.num) (by omega)
  have t2 := RWText_spec (G := G) hG (i := (q.den : Int)) (by show (words q.den).length ≤ _; omega)
  have l1 : (intT q.num).length ≤ 32 * k + 1 := decT_len h1 h3
  have l2 : (intT (q.den : Int)).length ≤ 32 * k + 1 := decT_len (by show (words q.den).length ≤ _; exact h2) h3
  unfold fracT
  by_cases hd : q.den = 1
  · rw [if_pos hd]
    rw [decide_eq_true hd] at e
    exact Spec.of_run hG Tryz.func52 (ro := [1]) (m := 40) [.call p1, .call (rone_spec hG), .call c, .eq 13 (Lw.eqB e), .call t1] (by kernel_rfl)
  · rw [if_neg hd]
    rw [decide_eq_false hd] at e
    exact Spec.of_run hG Tryz.func52 (ro := [1]) (m := 40) [.call p1, .call (rone_spec hG), .call c, .eq 13 (Lw.eqB e), .call t1, .prop (cat_need (intT q.num) [47] (by simp only [List.length_cons, List.length_nil]; omega)), .eq 18 (cat_tx (intT q.num) [47]), .call t2, .prop (cat_need (intT q.num ++ [47]) (intT (q.den : Int)) (by simp only [List.length_append, List.length_cons, List.length_nil]; omega)), .eq 21 (cat_tx (intT q.num ++ [47]) (intT (q.den : Int)))] (by kernel_rfl)
theorem fracT_len {k : Nat} {q : Rat} (s : SzQ k q) : (fracT q).length ≤ 64 * k + 3 := by
  obtain ⟨h1, h2, h3⟩ := s
  have l1 : (intT q.num).length ≤ 32 * k + 1 := decT_len h1 h3
  have l2 : (intT (q.den : Int)).length ≤ 32 * k + 1 := decT_len (by show (words q.den).length ≤ _; exact h2) h3
  unfold fracT
  split
  · omega
  · simp only [List.length_append, List.length_cons, List.length_nil]; omega
/-- The text of an interval. -/
def rangeT (a b : Rat) : List UInt8 := (fracT a ++ [46, 46]) ++ fracT b
theorem ITextS (hG : Steady G) (hT : ∀ w, G w → Tab w) {k : Nat} {x : D} {a b : Rat} (hx : IsI k x a b) (hk : k ≤ KB) : Spec Tryz.prog G 25 [x] (txt (rangeT a b)) := by
  have kb := KB_eq
  have c := clean_spec hG hx hk
  have t1 := FTextS hG hT hx.szL.1 hk
  have t2 := FTextS hG hT hx.szL.2 hk
  have l1 := fracT_len hx.szL.1
  have l2 := fracT_len hx.szL.2
  unfold rangeT
  generalize fracT a = A at *
  generalize fracT b = B at *
  obtain ⟨r, rfl, -, -, -⟩ := hx
  exact Spec.of_run hG Tryz.func25 (ro := []) (m := 40) [.call c, .call t1, .prop (cat_need A [46, 46] (by simp only [List.length_cons, List.length_nil]; omega)), .eq 8 (cat_tx A [46, 46]), .call t2, .prop (cat_need (A ++ [46, 46]) B (by simp only [List.length_append, List.length_cons, List.length_nil]; omega)), .eq 12 (cat_tx (A ++ [46, 46]) B)] (by kernel_rfl)
theorem RITextS (hG : Steady G) {k : Nat} {x : D} {a b : Rat} (hx : IsI k x a b) (hk : k + k < KB) : Spec Tryz.prog G 26 [x] (txt (rangeT a b)) := by
  have kb := KB_eq
  have c := given_spec hG hx hk
  have t1 := RFTextS (G := G) hG hx.szL.1 (by omega)
  have t2 := RFTextS (G := G) hG hx.szL.2 (by omega)
  have l1 := fracT_len hx.szL.1
  have l2 := fracT_len hx.szL.2
  unfold rangeT
  generalize fracT a = A at *
  generalize fracT b = B at *
  obtain ⟨r, rfl, -, -, -⟩ := hx
  exact Spec.of_run hG Tryz.func26 (ro := []) (m := 40) [.call c, .call t1, .prop (cat_need A [46, 46] (by simp only [List.length_cons, List.length_nil]; omega)), .eq 8 (cat_tx A [46, 46]), .call t2, .prop (cat_need (A ++ [46, 46]) B (by simp only [List.length_append, List.length_cons, List.length_nil]; omega)), .eq 12 (cat_tx (A ++ [46, 46]) B)] (by kernel_rfl)
end Lw
