/- The text of a fraction: the program's function, run. No condition; where the table of Itoa lies. -/
import Derived.Test.YticigjdakdbbjaaGreatDoorLwWc
namespace Lw
open Go Go.RowKit Go.Proofs Go.Lib

variable {G : World → Prop}
theorem decT_len {s : Bool} {n K : Nat} (hn : (words n).length ≤ K) (h0 : 1 ≤ K) : (decT s n).length ≤ 32 * K + 1 := by
  have := dig_few hn h0
  unfold decT
  split
  · rw [List.length_cons]; omega
  · omega
/-- The text of an integer with a sign. -/
def intT (i : Int) : List UInt8 := decT (decide (i < 0)) i.natAbs
theorem WText_spec (hG : Steady G) (hT : ∀ w, G w → Tab w) {i : Int} (hn : (words i.natAbs).length ≤ 1073741824) : Spec Tryz.prog G 89 [W i] (txt (intT i)) :=
  IText_spec hG hT (fun h => by have := of_decide_eq_true h; omega) hn
/-- The text of a fraction. -/
def fracT (q : Rat) : List UInt8 := if q.den = 1 then intT q.num else (intT q.num ++ [47]) ++ intT (q.den : Int)
theorem FTextS (hG : Steady G) (hT : ∀ w, G w → Tab w) {k : Nat} {q : Rat} (s : SzQ k q) (hk : k ≤ KB) : Spec Tryz.prog G 51 [F q] (txt (fracT q)) := by
  have kb := KB_eq
  have p1 := s.isQ.parts (G := G) hG hk
  obtain ⟨h1, h2, h3⟩ := s
  have sd : SzI (q.den : Int) := by
    unfold SzI Sz
    have : (2:Nat) ^ 36 = 68719476736 := by decide
    show (words q.den).length ≤ _
    omega
  have c := Cmp_spec (G := G) hG sd szI_one
  have e := cmp_one q.den
  have t1 := WText_spec (G := G) hG hT (i := q.num) (by omega)
  have t2 := WText_spec (G := G) hG hT (i := (q.den : Int)) (by show (words q.den).length ≤ _; omega)
  have l1 : (intT q.num).length ≤ 32 * k + 1 := decT_len h1 h3
  have l2 : (intT (q.den : Int)).length ≤ 32 * k + 1 := decT_len (by show (words q.den).length ≤ _; exact h2) h3
  unfold fracT
  by_cases hd : q.den = 1
  · rw [if_pos hd]
    rw [decide_eq_true hd] at e
    exact Spec.of_run hG Tryz.func51 (ro := [1]) (m := 40) [.call p1, .call (one_spec hG), .call c, .eq 13 (Lw.eqB e), .call t1] (by kernel_rfl)
  · rw [if_neg hd]
    rw [decide_eq_false hd] at e
    exact Spec.of_run hG Tryz.func51 (ro := [1]) (m := 40) [.call p1, .call (one_spec hG), .call c, .eq 13 (Lw.eqB e), .call t1, .prop (cat_need (intT q.num) [47] (by simp only [List.length_cons, List.length_nil]; omega)), .eq 18 (cat_tx (intT q.num) [47]), .call t2, .prop (cat_need (intT q.num ++ [47]) (intT (q.den : Int)) (by simp only [List.length_append, List.length_cons, List.length_nil]; omega)), .eq 21 (cat_tx (intT q.num ++ [47]) (intT (q.den : Int)))] (by kernel_rfl)
end Lw
