/- The walks of the words of an integer: word, trim. No condition. -/
import Derived.Test.YtfdllnbmjlhliaaGreatDoorLwK
import Derived.Test.YtfdllnbmjlhliaaGreatDoorProg
namespace Lw
open Go Go.RowKit Go.Proofs

variable {G : World → Prop}

def u32 (n : Nat) : D := .lit (.int .u32 (Int.ofNat n))
def u64 (n : Nat) : D := .lit (.int .u64 (Int.ofNat n))
def int (n : Int) : D := .lit (.int .i64 n)
def nat (n : Nat) : D := .lit (.int .i64 (Int.ofNat n))
def bool (b : Bool) : D := .lit (.bool b)
def rowW (l : List Nat) : D := .row l.length false (l.map u32)

theorem headD_u32 {l : List Nat} {i : Nat} (h : i < l.length) : ((l.map u32).drop (i * 1)).headD .any = u32 (l.getD i 0) := by
  rw [Nat.mul_one, List.headD_eq_head?_getD, List.head?_drop, List.getElem?_map, List.getElem?_eq_getElem h, List.getD_eq_getElem?_getD, List.getElem?_eq_getElem h]
  rfl
theorem eq64 {x y : Int} (h : x = y) : D.lit (.int .u64 x) = D.lit (.int .u64 y) := by rw [h]
theorem eq32 {x y : Int} (h : x = y) : D.lit (.int .u32 x) = D.lit (.int .u32 y) := by rw [h]
theorem eqS {x y : Int} (h : x = y) : D.lit (.int .i64 x) = D.lit (.int .i64 y) := by rw [h]
/-- What is owed at a word's place. -/
theorem at_need {l : List Nat} {i : Nat} (h : i < l.length) : ((0:Int) ≤ Int.ofNat i ∧ Int.ofNat i < (l.length : Int)) ∧ (Int.ofNat i).toNat * 1 < (l.map u32).length := by
  simp only [List.length_map, Int.ofNat_eq_natCast, Int.toNat_natCast]; omega
theorem load_need {l : List Nat} {i : Nat} (h : i < l.length) : 0 < 1 ∧ 1 ≤ ((l.map u32).drop ((Int.ofNat i).toNat * 1)).length := by
  simp only [List.length_drop, List.length_map, Int.ofNat_eq_natCast, Int.toNat_natCast]; omega
theorem headD_need {l : List Nat} {i : Nat} (h : i < l.length) : ((l.map u32).drop ((Int.ofNat i).toNat * 1)).headD .any = u32 (l.getD i 0) := headD_u32 h

theorem word_out (hG : Steady G) (l : List Nat) (i : Nat) (h : l.length ≤ i) : Spec Tryz.prog G 132 [rowW l, nat i] (u64 0) :=
  Spec.of_run hG Tryz.func132 (ro := []) (m := 30)
    [.eq 8 (eqB (x := decide (Int.ofNat i < Int.ofNat l.length)) (y := false) (by simp; omega))] (by kernel_rfl)
theorem word_in (hG : Steady G) (l : List Nat) (hl : Dig l) (i : Nat) (h : i < l.length) : Spec Tryz.prog G 132 [rowW l, nat i] (u64 (l.getD i 0)) :=
  Spec.of_run hG Tryz.func132 (ro := []) (m := 30)
    [.eq 8 (eqB (x := decide (Int.ofNat i < Int.ofNat l.length)) (y := true) (by simp; omega)), .prop (at_need h), .prop (load_need h), .eq 12 (headD_need h),
     .eq 13 (eq64 (x := IntKind.wrap .u64 (Int.ofNat (l.getD i 0))) (y := Int.ofNat (l.getD i 0)) (wrap64 (by have := hl.getD i; omega)))] (by kernel_rfl)
/-- A word, 0 behind the end. -/
theorem word_spec (hG : Steady G) (l : List Nat) (hl : Dig l) (i : Nat) : Spec Tryz.prog G 132 [rowW l, nat i] (u64 (l.getD i 0)) := by
  rcases Nat.lt_or_ge i l.length with h | h
  · exact word_in hG l hl i h
  · have := word_out hG l i h
    rwa [show l.getD i 0 = 0 by simp [List.getD_eq_getElem?_getD, List.getElem?_eq_none h]]

/-! ### trim -/
def trimInv (l : List Nat) (i : Nat) : St := lay 25 [(0, rowW l), (3, nat (l.length - i))] []
theorem trim_round (hG : Steady G) {l : List Nat} {i : Nat} (hi : i < l.length - (words (val l)).length) (hd : Dig l) (hb : l.length < 2 ^ 60) :
    Goes Tryz.prog G 0 (loopOf Tryz.f130 0) (trimInv l i) .normal (trimInv l (i + 1)) := by
  have hz : l.getD (l.length - (i + 1)) 0 = 0 := (words_val hd).2.2.1 _ (by omega)
  have hlt : l.length - (i + 1) < l.length := by omega
  exact Goes.of_run hG (ro := []) (m := 30) (lay_len ..)
    [.eq 7 (eqB (x := decide (Int.ofNat (l.length - i) > 0)) (y := true) (by simp; omega)),
     .eq 11 (eqS (x := IntKind.wrap .i64 (Int.ofNat (l.length - i) - 1)) (y := Int.ofNat (l.length - (i + 1))) (by rw [wrapS (by simp; omega) (by simp; omega)]; simp; omega)),
     .prop (at_need hlt), .prop (load_need hlt), .eq 13 (headD_need hlt), .eq 14 (eqB (x := Int.ofNat (l.getD (l.length - (i + 1)) 0) == 0) (y := true) (by rw [hz]; rfl)),
     .eq 17 (eqS (x := IntKind.wrap .i64 (Int.ofNat (l.length - i) - 1)) (y := Int.ofNat (l.length - (i + 1))) (by rw [wrapS (by simp; omega) (by simp; omega)]; simp; omega))] (by kernel_rfl)
theorem trim_last (hG : Steady G) {l : List Nat} (hd : Dig l) (hb : l.length < 2 ^ 60) :
    Goes Tryz.prog G 0 (loopOf Tryz.f130 0) (trimInv l (l.length - (words (val l)).length)) (.exit 0) (trimInv l (l.length - (words (val l)).length)) := by
  obtain ⟨h1, -, h3, h4⟩ := words_val hd
  rcases Nat.eq_zero_or_pos (words (val l)).length with hz | hp
  · exact Goes.of_run hG (ro := []) (m := 30) (lay_len ..)
      [.eq 7 (eqB (x := decide (Int.ofNat (l.length - (l.length - (words (val l)).length)) > 0)) (y := false) (by simp; omega))] (by kernel_rfl)
  · have hlt : (words (val l)).length - 1 < l.length := by omega
    exact Goes.of_run hG (ro := []) (m := 30) (lay_len ..)
      [.eq 7 (eqB (x := decide (Int.ofNat (l.length - (l.length - (words (val l)).length)) > 0)) (y := true) (by simp; omega)),
       .eq 11 (eqS (x := IntKind.wrap .i64 (Int.ofNat (l.length - (l.length - (words (val l)).length)) - 1)) (y := Int.ofNat ((words (val l)).length - 1)) (by rw [wrapS (by simp; omega) (by simp; omega)]; simp; omega)),
       .prop (at_need hlt), .prop (load_need hlt), .eq 13 (headD_need hlt), .eq 14 (eqB (x := Int.ofNat (l.getD ((words (val l)).length - 1) 0) == 0) (y := false) (by rw [beq_eq_false_iff_ne]; have := h4 hp; simp only [Int.ofNat_eq_natCast]; omega))] (by kernel_rfl)
theorem trim_loop (hG : Steady G) {l : List Nat} (hd : Dig l) (hb : l.length < 2 ^ 60) :
    Abs Tryz.prog G 25 0 (.loop (loopOf Tryz.f130 0)) (trimInv l 0) (.exit 0) (trimInv l (l.length - (words (val l)).length)) :=
  Abs.count (trimInv l) _ (fun i => lay_len _ _ _) (by simp) (fun i hi => trim_round hG hi hd hb) (trim_last hG hd hb)
theorem row_eq {l m : List Nat} (h : l = m) : rowW l = rowW m := by rw [h]
theorem trim_spec (hG : Steady G) {l : List Nat} (hd : Dig l) (hb : l.length ≤ 2 ^ 40) : Spec Tryz.prog G 130 [rowW l] (rowW (words (val l))) := by
  have hb' : l.length < 2 ^ 60 := by omega
  obtain ⟨h1, h2, -, -⟩ := words_val hd
  have hk : l.length - (l.length - (words (val l)).length) = (words (val l)).length := by omega
  by_cases hz : words (val l) = []
  · have hz' : (words (val l)).length = 0 := by rw [hz]; rfl
    have := Spec.of_run hG Tryz.func130 (ro := []) (m := 30) (args := [rowW l]) (r := rowW [])
      [.code (trim_loop hG hd hb'), .eq 19 (eqB (x := Int.ofNat (l.length - (l.length - (words (val l)).length)) == 0) (y := true) (by rw [hk, hz']; rfl))] (by kernel_rfl)
    rw [hz]; exact this
  · have hz' : 0 < (words (val l)).length := by cases hq : words (val l) with | nil => exact absurd hq hz | cons a b => simp
    refine Spec.of_run hG Tryz.func130 (ro := [24]) (m := 30) (args := [rowW l]) (r := rowW (words (val l)))
      [.code (trim_loop hG hd hb'), .eq 19 (eqB (x := Int.ofNat (l.length - (l.length - (words (val l)).length)) == 0) (y := false) (by rw [hk]; simp; omega)),
       .eq 22 (d := nat (l.length - (l.length - (words (val l)).length))) (d' := nat (words (val l)).length) (by rw [hk]),
       .prop (p := (0:Int) ≤ 0 ∧ 0 ≤ Int.ofNat (words (val l)).length ∧ Int.ofNat (words (val l)).length ≤ Int.ofNat l.length) (by simp; omega),
       .eq 23 (d := .row ((Int.ofNat (words (val l)).length).toNat - (0:Int).toNat) (false && false) (((l.map u32).drop ((0:Int).toNat * 1)).take (((Int.ofNat (words (val l)).length).toNat - (0:Int).toNat) * 1))) (d' := rowW (words (val l))) ?_,
       .prop (p := ([] : List D).length = 0 * 1 ∧ ((words (val l)).map u32).length = (words (val l)).length * 1 ∧ 0 + (words (val l)).length ≤ 2 ^ 62 ∧ (0 + (words (val l)).length) * 4 ≤ 2 ^ 47) (by simp; omega),
       .eq 24 (d := .row (0 + (words (val l)).length) false ([] ++ (words (val l)).map u32)) (d' := rowW (words (val l))) (by simp [rowW])] (by kernel_rfl)
    simp only [Int.ofNat_eq_natCast, Int.toNat_natCast, Int.toNat_zero, Nat.mul_one, Nat.sub_zero, List.drop_zero, Bool.false_and]
    rw [← List.map_take, ← h2]; rfl
end Lw
