/- Rows of structs; lists of displacements and places, of any length, that are short. No condition. -/
import Derived.Test.YtmgkbhjilkkjiaaGreatDoorLwPl
namespace Lw
open Go Go.RowKit Go.Proofs

/-- A row of structs. -/
def rowS {α : Type} (f : α → List D) (l : List α) : D := .row l.length false (l.flatMap f)
section
variable {α : Type} {f : α → List D} {sz : Nat}
theorem flat_len (hf : ∀ x, (f x).length = sz) (l : List α) : (l.flatMap f).length = l.length * sz := by
  induction l with
  | nil => simp
  | cons x l ih => rw [List.flatMap_cons, List.length_append, hf, ih, List.length_cons, Nat.succ_mul]; omega
theorem flat_drop (hf : ∀ x, (f x).length = sz) : ∀ (l : List α) (i : Nat), (l.flatMap f).drop (i * sz) = (l.drop i).flatMap f
  | [], i => by simp
  | x :: l, 0 => by simp
  | x :: l, i + 1 => by
    rw [List.flatMap_cons, List.drop_succ_cons, Nat.succ_mul, Nat.add_comm, ← List.drop_drop, ← hf x, List.drop_left, hf x]
    exact flat_drop hf l i
theorem flat_at (hf : ∀ x, (f x).length = sz) {l : List α} {i : Nat} (hi : i < l.length) (d : α) : ((l.flatMap f).drop (i * sz)).take sz = f (l.getD i d) := by
  rw [flat_drop hf, List.drop_eq_getElem_cons hi, List.flatMap_cons, ← hf l[i], List.take_left, List.getD_eq_getElem?_getD, List.getElem?_eq_getElem hi]
  rfl
theorem atS_need (hf : ∀ x, (f x).length = sz) (h0 : 0 < sz) {l : List α} {i : Nat} (h : i < l.length) : ((0:Int) ≤ Int.ofNat i ∧ Int.ofNat i < (l.length : Int)) ∧ (Int.ofNat i).toNat * sz < (l.flatMap f).length := by
  have : (Int.ofNat i).toNat = i := rfl
  rw [flat_len hf, this]
  refine ⟨⟨by simp, by simpa using h⟩, Nat.mul_lt_mul_of_pos_right h h0⟩
theorem loadS_need (hf : ∀ x, (f x).length = sz) (h0 : 0 < sz) {l : List α} {i : Nat} (h : i < l.length) : 0 < sz ∧ sz ≤ ((l.flatMap f).drop ((Int.ofNat i).toNat * sz)).length := by
  have e : (Int.ofNat i).toNat = i := rfl
  rw [List.length_drop, flat_len hf, e]
  have : (i + 1) * sz ≤ l.length * sz := Nat.mul_le_mul_right _ h
  rw [Nat.succ_mul] at this
  exact ⟨h0, by omega⟩
theorem aggS (hf : ∀ x, (f x).length = sz) {l : List α} {i : Nat} (h : i < l.length) (d : α) : D.agg (((l.flatMap f).drop ((Int.ofNat i).toNat * sz)).take sz) = .agg (f (l.getD i d)) := by
  have e : (Int.ofNat i).toNat = i := rfl
  rw [e, flat_at hf h d]
theorem nat_succ' {i n : Nat} (h : i < n) (hn : n ≤ 9223372036854775807) : IntKind.wrap .i64 (Int.ofNat i + 1) = Int.ofNat (i + 1) := by
  rw [wrapS (by simp; omega) (by simp; omega)]; simp
theorem getD_mem {l : List α} {i : Nat} (h : i < l.length) (d : α) : l.getD i d ∈ l := by
  rw [List.getD_eq_getElem?_getD, List.getElem?_eq_getElem h]; exact List.getElem_mem h
/-- All of a list is so, or there is a first one that is not. -/
theorem all_or_first (p : α → Prop) [DecidablePred p] (d : α) (l : List α) : (∀ x ∈ l, p x) ∨ ∃ i, i < l.length ∧ ¬ p (l.getD i d) ∧ ∀ j, j < i → p (l.getD j d) := by
  induction l with
  | nil => exact .inl fun x hx => by cases hx
  | cons x l ih =>
    by_cases hx : p x
    · rcases ih with ih | ⟨i, h1, h2, h3⟩
      · refine .inl fun y hy => ?_
        rcases List.mem_cons.1 hy with rfl | hy
        · exact hx
        · exact ih y hy
      · refine .inr ⟨i + 1, by simpa using h1, by simpa using h2, fun j hj => ?_⟩
        cases j with
        | zero => exact hx
        | succ j => simpa using h3 j (by omega)
    · exact .inr ⟨0, by simp, hx, fun j hj => by omega⟩
end

variable {G : World → Prop}

theorem RPo.cells_len (r : RPo) : r.cells.length = 10 := rfl
theorem RPl.cells_len (r : RPl) : r.cells.length = 6 := rfl
def RPo.zero : RPo := ⟨⟨⟨false, [], []⟩, false⟩, ⟨⟨false, [], []⟩, ⟨false, [], []⟩⟩⟩
def RPl.zero : RPl := ⟨⟨false, [], []⟩, ⟨false, [], []⟩⟩
instance (r : RPo) : Decidable r.short := by unfold RPo.short; infer_instance
instance (r : RPl) : Decidable r.short := by unfold RPl.short; infer_instance
def shInv (l : List RPo) (i : Nat) : St := lay 40 [(7, rowS RPo.cells l), (8, nat l.length), (9, nat i)] []
/-! ### Places -/
def splInv (l : List RPl) (i : Nat) : St := lay 35 [(7, rowS RPl.cells l), (8, nat l.length), (9, nat i)] []
end Lw
