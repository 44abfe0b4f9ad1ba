/- Rows of structs; lists of displacements and places, of any length, that are short. No condition. -/
import Derived.Test.YtobmipmefimfpaaGreatDoorLwPl
namespace Lw
open Go Go.RowKit Go.Proofs

/-- A row of structs. -/
def rowS {α : Type} (f : α → List D) (l : List α) : D := .row l.length false (l.flatMap f)
section
variable {α : Type} {f : α → List D} {sz : Nat}
theorem flat_len (hf : ∀ x, (f x).length = sz) (l : List α) : (l.flatMap f).length = l.length * sz := by
  induction l with
  | nil => simp
  | cons x l ih => rw [List.flatMap_cons, List.length_append, hf, ih, List.length_cons, Nat.succ_mul]; omega
theorem flat_drop (hf : ∀ x, (f x).length = sz) : ∀ (l : List α) (i : Nat), (l.flatMap f).drop (i * sz) = (l.drop i).flatMap f
  | [], i => by simp
  | x :: l, 0 => by simp
  | x :: l, i + 1 => by
    rw [List.flatMap_cons, List.drop_succ_cons, Nat.succ_mul, Nat.add_comm, ← List.drop_drop, ← hf x, List.drop_left, hf x]
    exact flat_drop hf l i
theorem flat_at (hf : ∀ x, (f x).length = sz) {l : List α} {i : Nat} (hi : i < l.length) (d : α) : ((l.flatMap f).drop (i * sz)).take sz = f (l.getD i d) := by
  rw [flat_drop hf, List.drop_eq_getElem_cons hi, List.flatMap_cons, ← hf l[i], List.take_left, List.getD_eq_getElem?_getD, List.getElem?_eq_getElem hi]
  rfl
theorem atS_need (hf : ∀ x, (f x).length = sz) (h0 : 0 < sz) {l : List α} {i : Nat} (h : i < l.length) : ((0:Int) ≤ Int.ofNat i ∧ Int.ofNat i < (l.length : Int)) ∧ (Int.ofNat i).toNat * sz < (l.flatMap f).length := by
  have : (Int.ofNat i).toNat = i := rfl
  rw [flat_len hf, this]
  refine ⟨⟨by simp, by simpa using h⟩, Nat.mul_lt_mul_of_pos_right h h0⟩
theorem loadS_need (hf : ∀ x, (f x).length = sz) (h0 : 0 < sz) {l : List α} {i : Nat} (h : i < l.length) : 0 < sz ∧ sz ≤ ((l.flatMap f).drop ((Int.ofNat i).toNat * sz)).length := by
  have e : (Int.ofNat i).toNat = i := rfl
  rw [List.length_drop, flat_len hf, e]
  have : (i + 1) * sz ≤ l.length * sz := Nat.mul_le_mul_right _ h
  rw [Nat.succ_mul] at this
  exact ⟨h0, by omega⟩
theorem aggS (hf : ∀ x, (f x).length = sz) {l : List α} {i : Nat} (h : i < l.length) (d : α) : D.agg (((l.flatMap f).drop ((Int.ofNat i).toNat * sz)).take sz) = .agg (f (l.getD i d)) := by
  have e : (Int.ofNat i).toNat = i := rfl
  rw [e, flat_at hf h d]
theorem nat_succ' {i n : Nat} (h : i < n) (hn : n ≤ 9223372036854775807) : IntKind.wrap .i64 (Int.ofNat i + 1) = Int.ofNat (i + 1) := by
  rw [wrapS (by simp; omega) (by simp; omega)]; simp
theorem getD_mem {l : List α} {i : Nat} (h : i < l.length) (d : α) : l.getD i d ∈ l := by
  rw [List.getD_eq_getElem?_getD, List.getElem?_eq_getElem h]; exact List.getElem_mem h
/-- All of a list is so, or there is a first one that is not. -/
theorem all_or_first (p : α → Prop) [DecidablePred p] (d : α) (l : List α) : (∀ x ∈ l, p x) ∨ ∃ i, i < l.length ∧ ¬ p (l.getD i d) ∧ ∀ j, j < i → p (l.getD j d) := by
  induction l with
  | nil => exact .inl fun x hx => by cases hx
  | cons x l ih =>
    by_cases hx : p x
    · rcases ih with ih | ⟨i, h1, h2, h3⟩
      · refine .inl fun y hy => ?_
        rcases List.mem_cons.1 hy with rfl | hy
        · exact hx
        · exact ih y hy
      · refine .inr ⟨i + 1, by simpa using h1, by simpa using h2, fun j hj => ?_⟩
        cases j with
        | zero => exact hx
        | succ j => simpa using h3 j (by omega)
    · exact .inr ⟨0, by simp, hx, fun j hj => by omega⟩
end

variable {G : World → Prop}

theorem RPo.cells_len (r : RPo) : r.cells.length = 10 := rfl
theorem RPl.cells_len (r : RPl) : r.cells.length = 6 := rfl
def RPo.zero : RPo := ⟨⟨⟨false, [], []⟩, false⟩, ⟨⟨false, [], []⟩, ⟨false, [], []⟩⟩⟩
def RPl.zero : RPl := ⟨⟨false, [], []⟩, ⟨false, [], []⟩⟩
instance (r : RPo) : Decidable r.short := by unfold RPo.short; infer_instance
instance (r : RPl) : Decidable r.short := by unfold RPl.short; infer_instance
def shInv (l : List RPo) (i : Nat) : St := lay 40 [(7, rowS RPo.cells l), (8, nat l.length), (9, nat i)] []
/-! ### Places -/
def splInv (l : List RPl) (i : Nat) : St := lay 35 [(7, rowS RPl.cells l), (8, nat l.length), (9, nat i)] []
theorem spl_good (hG : Steady G) {l : List RPl} {i : Nat} (hi : i < l.length) (hb : l.length ≤ 9223372036854775807) (hs : (l.getD i RPl.zero).short) :
    Goes Tryz.prog G 0 (loopOf Tryz.f37 0) (splInv l i) .normal (splInv l (i + 1)) := by
  have e := aggS RPl.cells_len hi RPl.zero
  generalize l.getD i RPl.zero = r at e hs
  obtain ⟨g0, g1, g2, g3⟩ := hs
  exact Goes.of_run hG (ro := []) (m := 60) (lay_len ..)
    [.eq 10 (eqB (lt_true hi)), .prop (atS_need RPl.cells_len (by omega) hi), .prop (loadS_need RPl.cells_len (by omega) hi), .eq 12 e, .eq 26 (eqB (gt2_false g0)), .eq 31 (eqB (gt2_false g1)), .eq 26 (eqB (gt2_false g2)), .eq 31 (eqB (gt2_false g3)), .eq 34 (eqS (nat_succ' hi hb))] (by kernel_rfl)
theorem spl_bad (hG : Steady G) {l : List RPl} {i : Nat} (hi : i < l.length) (hs : ¬ (l.getD i RPl.zero).short) :
    Goes Tryz.prog G 0 (loopOf Tryz.f37 0) (splInv l i) .ret (lay 35 [(2, bool false)] []) := by
  have e := aggS RPl.cells_len hi RPl.zero
  have n1 := atS_need RPl.cells_len (by omega) hi
  have n2 := loadS_need RPl.cells_len (by omega) hi
  generalize l.getD i RPl.zero = r at e hs
  by_cases g0 : r.x.n.length ≤ 2
  case neg => exact Goes.of_run hG (ro := []) (m := 60) (lay_len ..) [.eq 10 (eqB (lt_true hi)), .prop n1, .prop n2, .eq 12 e, .eq 26 (eqB (gt2_true g0))] (by kernel_rfl)
  by_cases g1 : r.x.d.length ≤ 2
  case neg => exact Goes.of_run hG (ro := []) (m := 60) (lay_len ..) [.eq 10 (eqB (lt_true hi)), .prop n1, .prop n2, .eq 12 e, .eq 26 (eqB (gt2_false g0)), .eq 31 (eqB (gt2_true g1))] (by kernel_rfl)
  by_cases g2 : r.y.n.length ≤ 2
  case neg => exact Goes.of_run hG (ro := []) (m := 60) (lay_len ..) [.eq 10 (eqB (lt_true hi)), .prop n1, .prop n2, .eq 12 e, .eq 26 (eqB (gt2_false g0)), .eq 31 (eqB (gt2_false g1)), .eq 26 (eqB (gt2_true g2))] (by kernel_rfl)
  by_cases g3 : r.y.d.length ≤ 2
  case neg => exact Goes.of_run hG (ro := []) (m := 60) (lay_len ..) [.eq 10 (eqB (lt_true hi)), .prop n1, .prop n2, .eq 12 e, .eq 26 (eqB (gt2_false g0)), .eq 31 (eqB (gt2_false g1)), .eq 26 (eqB (gt2_false g2)), .eq 31 (eqB (gt2_true g3))] (by kernel_rfl)
  exact absurd ⟨g0, g1, g2, g3⟩ hs
theorem ShortPlL (hG : Steady G) (l : List RPl) (hb : l.length ≤ 9223372036854775807) : Spec Tryz.prog G 37 [rowS RPl.cells l] (bool (decide (∀ r ∈ l, r.short))) := by
  rcases all_or_first RPl.short RPl.zero l with h | ⟨i, h1, h2, h3⟩
  · rw [decide_eq_true h]
    have lp := Abs.count (P := Tryz.prog) (Good := G) (gb := 0) (body := loopOf Tryz.f37 0) (e := .exit 0) (s' := splInv l l.length) (fun i => splInv l i) l.length (fun i => lay_len ..) (by intro h; cases h)
      (fun i hi => spl_good hG hi hb (h _ (getD_mem hi _))) (Goes.of_run hG (ro := []) (m := 60) (lay_len ..) [.eq 10 (eqB (lt_false (Nat.le_refl l.length)))] (by kernel_rfl))
    exact Spec.of_run hG Tryz.func37 (ro := []) (m := 60) [.code lp] (by kernel_rfl)
  · rw [decide_eq_false fun h => h2 (h _ (getD_mem h1 _))]
    have lp := Abs.count (P := Tryz.prog) (Good := G) (gb := 0) (body := loopOf Tryz.f37 0) (e := .ret) (s' := lay 35 [(2, bool false)] []) (fun i => splInv l i) i (fun i => lay_len ..) (by intro h; cases h)
      (fun j hj => spl_good hG (by omega) hb (h3 j hj)) (spl_bad hG h1 h2)
    exact Spec.of_run hG Tryz.func37 (ro := []) (m := 60) [.code lp] (by kernel_rfl)
/-- Two places. -/
theorem ShortPl2 (hG : Steady G) (r1 r2 : RPl) : (r1.short ∧ r2.short → Spec Tryz.prog G 37 [.row 2 false (r1.cells ++ r2.cells)] (bool true)) ∧ (¬ (r1.short ∧ r2.short) → Spec Tryz.prog G 37 [.row 2 false (r1.cells ++ r2.cells)] (bool false)) := by
  have h := ShortPlL (G := G) hG [r1, r2] (by simp)
  have e : rowS RPl.cells [r1, r2] = .row 2 false (r1.cells ++ r2.cells) := by unfold rowS; simp
  rw [e] at h
  constructor
  · intro hs
    rw [decide_eq_true (by intro r hr; simp at hr; rcases hr with rfl | rfl; (· exact hs.1); exact hs.2)] at h
    exact h
  · intro hs
    rw [decide_eq_false (fun g => hs ⟨g r1 (by simp), g r2 (by simp)⟩)] at h
    exact h
end Lw
