/- Rows of structs; the program's functions over lists of fractions, run: lists of any length. Condition: the fractions are of bounded size. -/
import Derived.Test.YtmcpfihkambgnaaGreatLwNe
import Derived.Test.YtmcpfihkambgnaaGreatLwTc
namespace Lw
namespace Tw
open Go Go.RowKit Go.Proofs Fld

/-- A row of structs. -/
def rowS {α : Type} (f : α → List D) (l : List α) : D := .row l.length false (l.flatMap f)
section
variable {α : Type} {f : α → List D} {sz : Nat}
theorem flat_len (hf : ∀ x, (f x).length = sz) (l : List α) : (l.flatMap f).length = l.length * sz := by
  induction l with
  | nil => simp
  | cons x l ih => rw [List.flatMap_cons, List.length_append, hf, ih, List.length_cons, Nat.succ_mul]; omega
theorem flat_drop (hf : ∀ x, (f x).length = sz) : ∀ (l : List α) (i : Nat), (l.flatMap f).drop (i * sz) = (l.drop i).flatMap f
  | [], i => by simp
  | x :: l, 0 => by simp
  | x :: l, i + 1 => by
    rw [List.flatMap_cons, List.drop_succ_cons, Nat.succ_mul, Nat.add_comm, ← List.drop_drop, ← hf x, List.drop_left, hf x]
    exact flat_drop hf l i
theorem flat_take (hf : ∀ x, (f x).length = sz) : ∀ (l : List α) (i : Nat), (l.flatMap f).take (i * sz) = (l.take i).flatMap f
  | [], i => by simp
  | x :: l, 0 => by simp
  | x :: l, i + 1 => by
    rw [List.flatMap_cons, List.take_succ_cons, List.flatMap_cons, Nat.succ_mul, Nat.add_comm, ← hf x, List.take_length_add_append, hf x]
    rw [flat_take hf l i]
theorem flat_at (hf : ∀ x, (f x).length = sz) {l : List α} {i : Nat} (hi : i < l.length) (d : α) : ((l.flatMap f).drop (i * sz)).take sz = f (l.getD i d) := by
  rw [flat_drop hf, List.drop_eq_getElem_cons hi, List.flatMap_cons, ← hf l[i], List.take_left, List.getD_eq_getElem?_getD, List.getElem?_eq_getElem hi]
  rfl
theorem atS_need (hf : ∀ x, (f x).length = sz) (h0 : 0 < sz) {l : List α} {i : Nat} (h : i < l.length) : ((0:Int) ≤ Int.ofNat i ∧ Int.ofNat i < (l.length : Int)) ∧ (Int.ofNat i).toNat * sz < (l.flatMap f).length := by
  have : (Int.ofNat i).toNat = i := rfl
  rw [flat_len hf, this]
  refine ⟨⟨by simp, by simpa using h⟩, Nat.mul_lt_mul_of_pos_right h h0⟩
theorem loadS_need (hf : ∀ x, (f x).length = sz) (h0 : 0 < sz) {l : List α} {i : Nat} (h : i < l.length) : 0 < sz ∧ sz ≤ ((l.flatMap f).drop ((Int.ofNat i).toNat * sz)).length := by
  have e : (Int.ofNat i).toNat = i := rfl
  rw [List.length_drop, flat_len hf, e]
  have : (i + 1) * sz ≤ l.length * sz := Nat.mul_le_mul_right _ h
  rw [Nat.succ_mul] at this
  exact ⟨h0, by omega⟩
theorem aggS (hf : ∀ x, (f x).length = sz) {l : List α} {i : Nat} (h : i < l.length) (d : α) : D.agg (((l.flatMap f).drop ((Int.ofNat i).toNat * sz)).take sz) = .agg (f (l.getD i d)) := by
  have e : (Int.ofNat i).toNat = i := rfl
  rw [e, flat_at hf h d]
theorem nat_succ' {i n : Nat} (h : i < n) (hn : n ≤ 9223372036854775807) : IntKind.wrap .i64 (Int.ofNat i + 1) = Int.ofNat (i + 1) := by
  rw [wrapS (by simp; omega) (by simp; omega)]; simp
theorem getD_mem {l : List α} {i : Nat} (h : i < l.length) (d : α) : l.getD i d ∈ l := by
  rw [List.getD_eq_getElem?_getD, List.getElem?_eq_getElem h]; exact List.getElem_mem h
/-- All of a list is so, or there is a first one that is not. -/
theorem all_or_first (p : α → Prop) [DecidablePred p] (d : α) (l : List α) : (∀ x ∈ l, p x) ∨ ∃ i, i < l.length ∧ ¬ p (l.getD i d) ∧ ∀ j, j < i → p (l.getD j d) := by
  induction l with
  | nil => exact .inl fun x hx => by cases hx
  | cons x l ih =>
    by_cases hx : p x
    · rcases ih with ih | ⟨i, h1, h2, h3⟩
      · refine .inl fun y hy => ?_
        rcases List.mem_cons.1 hy with rfl | hy
        · exact hx
        · exact ih y hy
      · refine .inr ⟨i + 1, by simpa using h1, by simpa using h2, fun j hj => ?_⟩
        cases j with
        | zero => exact hx
        | succ j => simpa using h3 j (by omega)
    · exact .inr ⟨0, by simp, hx, fun j hj => by omega⟩
end

variable {G : World → Prop}

/-- A list of fractions, and a tower, as data. -/
def NumD (l : List Rat) : D := rowS cF l
def TowD (t : Tow) : D := .agg [.row t.length false (t.map NumD)]
theorem cF_len (q : Rat) : (cF q).length = 3 := rfl
def SzL (k : Nat) (l : List Rat) : Prop := ∀ q ∈ l, SzQ k q
theorem SzL.mono {k m : Nat} {l : List Rat} (h : SzL k l) (hm : k ≤ m) : SzL m l := fun q hq => (h q hq).mono hm
theorem SzL.getD {k : Nat} {l : List Rat} (h : SzL k l) (hk : 0 < k) (i : Nat) : SzQ k (l.getD i 0) := by
  rcases Nat.lt_or_ge i l.length with hi | hi
  · exact h _ (getD_mem hi 0)
  · rw [getD_out hi]; exact sz_zero hk
theorem SzL.take {k : Nat} {l : List Rat} (h : SzL k l) (n : Nat) : SzL k (l.take n) := fun q hq => h q (List.mem_of_mem_take hq)
theorem SzL.drop {k : Nat} {l : List Rat} (h : SzL k l) (n : Nat) : SzL k (l.drop n) := fun q hq => h q (List.mem_of_mem_drop hq)
theorem cF_flat (q : Rat) : D.agg (cF q) = F q := rfl

/-! ### level -/
theorem level_spec (hG : Steady G) {k : Nat} (hk : k ≤ 5) (cells : List D) : Spec Tryz.prog G 131 [.row (2 ^ k) false cells] (nat k) := by
  have : k = 0 ∨ k = 1 ∨ k = 2 ∨ k = 3 ∨ k = 4 ∨ k = 5 := by omega
  rcases this with rfl | rfl | rfl | rfl | rfl | rfl
  · exact Spec.of_run hG Tryz.func131 (ro := []) (m := 60) [] (by kernel_rfl)
  · exact Spec.of_run hG Tryz.func131 (ro := []) (m := 60) [] (by kernel_rfl)
  · exact Spec.of_run hG Tryz.func131 (ro := []) (m := 60) [] (by kernel_rfl)
  · exact Spec.of_run hG Tryz.func131 (ro := []) (m := 60) [] (by kernel_rfl)
  · exact Spec.of_run hG Tryz.func131 (ro := []) (m := 60) [] (by kernel_rfl)
  · exact Spec.of_run hG Tryz.func131 (ro := []) (m := 60) [] (by kernel_rfl)
theorem level_0 (hG : Steady G) (cells : List D) : Spec Tryz.prog G 131 [.row 0 false cells] (int (-1)) :=
  Spec.of_run hG Tryz.func131 (ro := []) (m := 60) [] (by kernel_rfl)
theorem level_3 (hG : Steady G) (cells : List D) : Spec Tryz.prog G 131 [.row 3 false cells] (int (-1)) :=
  Spec.of_run hG Tryz.func131 (ro := []) (m := 60) [] (by kernel_rfl)

/-! ### zero and empty -/
theorem sgn_zero_iff (q : Rat) : sgn q = 0 ↔ q = 0 := by
  rcases sgn_cases q with ⟨h, e⟩ | ⟨h, e⟩ | ⟨h, e⟩
  · rw [e]; constructor
    · intro h; cases h
    · intro h2; rw [h2] at h; exact absurd h (by decide)
  · rw [e]; simp [h]
  · rw [e]; constructor
    · intro h; cases h
    · intro h2; rw [h2] at h; exact absurd h (by decide)
def zeInv (l : List Rat) (i : Nat) : St := lay 15 [(5, NumD l), (6, nat l.length), (7, nat i)] []
theorem ze_good (hG : Steady G) {l : List Rat} {i k : Nat} (hi : i < l.length) (hb : l.length ≤ 9223372036854775807) (hl : SzL k l) (hk : k ≤ KB) (hq : l.getD i 0 = 0) :
    Goes Tryz.prog G 0 (loopOf Tryz.f129 0) (zeInv l i) .normal (zeInv l (i + 1)) := by
  have e := aggS cF_len hi 0
  have s := FSign_spec (G := G) hG (hl _ (getD_mem hi 0)).isQ hk
  rw [hq] at e s
  exact Goes.of_run hG (ro := []) (m := 60) (lay_len ..)
    [.eq 8 (eqB (lt_true hi)), .prop (atS_need cF_len (by omega) hi), .prop (loadS_need cF_len (by omega) hi), .eq 10 e, .call s, .eq 14 (eqS (nat_succ' hi hb))] (by kernel_rfl)
theorem ze_bad (hG : Steady G) {l : List Rat} {i k : Nat} (hi : i < l.length) (hl : SzL k l) (hk : k ≤ KB) (hq : ¬ l.getD i 0 = 0) :
    Goes Tryz.prog G 0 (loopOf Tryz.f129 0) (zeInv l i) .ret (lay 15 [(2, bool false)] []) := by
  have e := aggS cF_len hi 0
  have s := FSign_spec (G := G) hG (hl _ (getD_mem hi 0)).isQ hk
  rcases sgn_cases (l.getD i 0) with ⟨-, g⟩ | ⟨g, -⟩ | ⟨-, g⟩
  · rw [g] at s
    generalize l.getD i 0 = q at e s
    exact Goes.of_run hG (ro := []) (m := 60) (lay_len ..)
      [.eq 8 (eqB (lt_true hi)), .prop (atS_need cF_len (by omega) hi), .prop (loadS_need cF_len (by omega) hi), .eq 10 e, .call s] (by kernel_rfl)
  · exact absurd g hq
  · rw [g] at s
    generalize l.getD i 0 = q at e s
    exact Goes.of_run hG (ro := []) (m := 60) (lay_len ..)
      [.eq 8 (eqB (lt_true hi)), .prop (atS_need cF_len (by omega) hi), .prop (loadS_need cF_len (by omega) hi), .eq 10 e, .call s] (by kernel_rfl)
theorem zeroL_all (l : List Rat) : zeroL l = decide (∀ q ∈ l, q = 0) := by
  unfold zeroL
  by_cases h : ∀ q ∈ l, q = 0
  · rw [decide_eq_true h]; simpa using h
  · rw [decide_eq_false h]; simpa using h
theorem zero_spec (hG : Steady G) {l : List Rat} {k : Nat} (hb : l.length ≤ 9223372036854775807) (hl : SzL k l) (hk : k ≤ KB) : Spec Tryz.prog G 129 [NumD l] (bool (zeroL l)) := by
  rw [zeroL_all]
  rcases all_or_first (fun q : Rat => q = 0) 0 l with h | ⟨i, h1, h2, h3⟩
  · rw [decide_eq_true h]
    have lp := Abs.count (P := Tryz.prog) (Good := G) (gb := 0) (body := loopOf Tryz.f129 0) (e := .exit 0) (s' := zeInv l l.length) (fun i => zeInv l i) l.length (fun i => lay_len ..) (by intro h; cases h)
      (fun i hi => ze_good hG hi hb hl hk (h _ (getD_mem hi _))) (Goes.of_run hG (ro := []) (m := 60) (lay_len ..) [.eq 8 (eqB (lt_false (Nat.le_refl l.length)))] (by kernel_rfl))
    exact Spec.of_run hG Tryz.func129 (ro := []) (m := 60) [.code lp] (by kernel_rfl)
  · rw [decide_eq_false fun h => h2 (h _ (getD_mem h1 _))]
    have lp := Abs.count (P := Tryz.prog) (Good := G) (gb := 0) (body := loopOf Tryz.f129 0) (e := .ret) (s' := lay 15 [(2, bool false)] []) (fun i => zeInv l i) i (fun i => lay_len ..) (by intro h; cases h)
      (fun j hj => ze_good hG (by omega) hb hl hk (h3 j hj)) (ze_bad hG h1 hl hk h2)
    exact Spec.of_run hG Tryz.func129 (ro := []) (m := 60) [.code lp] (by kernel_rfl)

/-! ### empty -/
def emInv (l : List Rat) (i : Nat) : St := lay 26 [(5, NumD l), (6, nat l.length), (7, nat i)] []
theorem em_good (hG : Steady G) {l : List Rat} {i : Nat} (hi : i < l.length) (hb : l.length ≤ 9223372036854775807) (hq : l.getD i 0 = 0) :
    Goes Tryz.prog G 0 (loopOf Tryz.f175 0) (emInv l i) .normal (emInv l (i + 1)) := by
  have e := aggS cF_len hi 0
  rw [hq] at e
  exact Goes.of_run hG (ro := []) (m := 60) (lay_len ..)
    [.eq 8 (eqB (lt_true hi)), .prop (atS_need cF_len (by omega) hi), .prop (loadS_need cF_len (by omega) hi), .eq 10 e, .eq 25 (eqS (nat_succ' hi hb))] (by kernel_rfl)
theorem em_bad (hG : Steady G) {l : List Rat} {i : Nat} (hi : i < l.length) (hq : ¬ l.getD i 0 = 0) :
    Goes Tryz.prog G 0 (loopOf Tryz.f175 0) (emInv l i) .ret (lay 26 [(2, bool false)] []) := by
  have e := aggS cF_len hi 0
  generalize l.getD i 0 = q at e hq
  have n0 : q.num ≠ 0 := fun h => hq (by rw [← Rat.num_divInt_den q, h]; simp)
  have er : rawOf q = ⟨decide (q.num < 0), words q.num.natAbs, words q.den⟩ := by unfold rawOf; rw [if_neg n0]
  have en : 0 < (words q.num.natAbs).length := List.length_pos_iff.2 (words_some (by omega))
  unfold cF at e
  rw [er] at e
  simp only at e
  generalize words q.num.natAbs = x at e en
  generalize words q.den = y at e
  generalize decide (q.num < 0) = b at e
  cases b with
  | true =>
    exact Goes.of_run hG (ro := []) (m := 60) (lay_len ..)
      [.eq 8 (eqB (lt_true hi)), .prop (atS_need cF_len (by omega) hi), .prop (loadS_need cF_len (by omega) hi), .eq 10 e] (by kernel_rfl)
  | false =>
    exact Goes.of_run hG (ro := []) (m := 60) (lay_len ..)
      [.eq 8 (eqB (lt_true hi)), .prop (atS_need cF_len (by omega) hi), .prop (loadS_need cF_len (by omega) hi), .eq 10 e, .eq 17 (eqB (x := decide (Int.ofNat x.length > 0)) (y := true) (by simpa using en))] (by kernel_rfl)
theorem empty_spec (hG : Steady G) {l : List Rat} (hb : l.length ≤ 9223372036854775807) : Spec Tryz.prog G 175 [NumD l] (bool (zeroL l)) := by
  rw [zeroL_all]
  rcases all_or_first (fun q : Rat => q = 0) 0 l with h | ⟨i, h1, h2, h3⟩
  · rw [decide_eq_true h]
    have lp := Abs.count (P := Tryz.prog) (Good := G) (gb := 0) (body := loopOf Tryz.f175 0) (e := .exit 0) (s' := emInv l l.length) (fun i => emInv l i) l.length (fun i => lay_len ..) (by intro h; cases h)
      (fun i hi => em_good hG hi hb (h _ (getD_mem hi _))) (Goes.of_run hG (ro := []) (m := 60) (lay_len ..) [.eq 8 (eqB (lt_false (Nat.le_refl l.length)))] (by kernel_rfl))
    exact Spec.of_run hG Tryz.func175 (ro := []) (m := 60) [.code lp] (by kernel_rfl)
  · rw [decide_eq_false fun h => h2 (h _ (getD_mem h1 _))]
    have lp := Abs.count (P := Tryz.prog) (Good := G) (gb := 0) (body := loopOf Tryz.f175 0) (e := .ret) (s' := lay 26 [(2, bool false)] []) (fun i => emInv l i) i (fun i => lay_len ..) (by intro h; cases h)
      (fun j hj => em_good hG (by omega) hb (h3 j hj)) (em_bad hG h1 h2)
    exact Spec.of_run hG Tryz.func175 (ro := []) (m := 60) [.code lp] (by kernel_rfl)

/-! ### wide -/
theorem cF_ok (l : List Rat) : (l.flatMap cF).all D.cellOk = true := by
  rw [List.all_eq_true]
  intro d hd
  obtain ⟨q, _, hq⟩ := List.mem_flatMap.1 hd
  simp only [cF, List.mem_cons, List.not_mem_nil, or_false] at hq
  rcases hq with rfl | rfl | rfl <;> rfl
theorem cF_pure (l : List Rat) : anyRef (l.flatMap cF) = false := by
  unfold anyRef
  rw [List.any_eq_false]
  intro d hd
  obtain ⟨q, _, hq⟩ := List.mem_flatMap.1 hd
  simp only [cF, List.mem_cons, List.not_mem_nil, or_false] at hq
  rcases hq with rfl | rfl | rfl <;> exact Bool.false_ne_true
theorem flat_zero (n : Nat) : (List.replicate n zeroF).flatten = (List.replicate n (0 : Rat)).flatMap cF := by
  induction n with
  | zero => rfl
  | succ n ih => rw [List.replicate_succ, List.replicate_succ, List.flatten_cons, List.flatMap_cons, ih]; rfl
theorem wide_eq (a : List Rat) (n : Nat) : wideL a n = a.take n ++ List.replicate (n - a.length) 0 := by
  apply List.ext_getElem
  · rw [wideL_len, List.length_append, List.length_take, List.length_replicate]; omega
  · intro i h1 h2
    rw [wideL_len] at h1
    have e1 : (wideL a n)[i] = a.getD i 0 := by simp [wideL]
    rw [e1, List.getElem_append]
    split
    · rename_i h; rw [List.length_take] at h; rw [List.getElem_take, List.getD_eq_getElem?_getD, List.getElem?_eq_getElem (by omega)]; rfl
    · rename_i h; rw [List.length_take] at h; rw [List.getElem_replicate, getD_out (by omega)]
theorem wide_cells (a : List Rat) (n : Nat) : splice ((List.replicate n zeroF).flatten) 0 ((a.flatMap cF).take (Nat.min a.length n * 3)) = (wideL a n).flatMap cF := by
  have e0 : Nat.min a.length n = min a.length n := rfl
  unfold splice
  rw [flat_zero, flat_take cF_len, wide_eq, List.flatMap_append, List.take_zero, List.nil_append, flat_len cF_len, Nat.zero_add, flat_drop cF_len]
  congr 1
  · congr 1
    rw [e0]
    rcases Nat.le_total a.length n with h | h
    · rw [Nat.min_eq_left h, List.take_of_length_le (Nat.le_refl _), List.take_of_length_le h]
    · rw [Nat.min_eq_right h]
  · congr 1
    rw [List.drop_replicate, List.length_take, e0]
    congr 1
    omega
theorem make_needF {N : Nat} (h : N ≤ 1073741824) : Int.ofNat N = Int.ofNat N ∧ 0 ≤ Int.ofNat N ∧ Int.ofNat N * 56 ≤ 2 ^ 47 ∧ Int.ofNat N ≤ 2 ^ 62 := by
  have h47 : (2:Int) ^ 47 = 140737488355328 := by decide
  have h62 : (2:Int) ^ 62 = 4611686018427387904 := by decide
  rw [h47, h62]; simp; omega
theorem copy_need (a : List Rat) (n : Nat) : (a.flatMap cF).all D.cellOk = true ∧ (a.flatMap cF).length = a.length * 3 ∧ 0 + Nat.min a.length n * 3 ≤ ((List.replicate n zeroF).flatten).length := by
  refine ⟨cF_ok a, flat_len cF_len a, ?_⟩
  rw [flat_zero, flat_len cF_len, List.length_replicate]
  have : Nat.min a.length n ≤ n := Nat.min_le_right _ _
  omega
theorem wide_row (a : List Rat) (n : Nat) : ((wideL a n).flatMap cF).take (n * 3) = (wideL a n).flatMap cF := by
  rw [List.take_of_length_le]
  rw [flat_len cF_len, wideL_len]; omega
theorem NumD_wide (a : List Rat) (n : Nat) : NumD (wideL a n) = .row n false ((wideL a n).flatMap cF) := by
  unfold NumD rowS; rw [wideL_len]
theorem wide_spec (hG : Steady G) (a : List Rat) {n : Nat} (hn : n ≤ 1073741824) : Spec Tryz.prog G 176 [NumD a, nat n] (NumD (wideL a n)) := by
  rw [NumD_wide, ← wide_row, ← wide_cells]
  exact Spec.of_run hG Tryz.func176 (ro := []) (m := 60) [.prop (make_needF hn), .prop (copy_need a n)] (by kernel_rfl)

/-! ### plus -/
def rowF (n : Nat) (f : Nat → Rat) : List D := ((List.range n).map f).flatMap cF
theorem rowF_len (n : Nat) (f : Nat → Rat) : (rowF n f).length = n * 3 := by unfold rowF; rw [flat_len cF_len]; simp
theorem rowF_congr {n : Nat} {f g : Nat → Rat} (h : ∀ i, i < n → f i = g i) : rowF n f = rowF n g := by
  unfold rowF
  congr 1
  exact List.map_congr_left fun i hi => h i (List.mem_range.1 hi)
theorem range_split {n i : Nat} (hi : i < n) : List.range n = List.range i ++ i :: (List.range (n - i - 1)).map (fun j => i + 1 + j) := by
  apply List.ext_getElem
  · simp; omega
  · intro j h1 h2
    rw [List.getElem_range, List.getElem_append]
    split
    · simp
    · rename_i h
      rw [List.length_range] at h
      rw [List.getElem_cons]
      split
      · rename_i h3; rw [List.length_range] at h3; omega
      · rename_i h3; rw [List.length_range] at h3; rw [List.getElem_map, List.getElem_range]; simp only [List.length_range]; omega
theorem rowF_set {n i : Nat} (hi : i < n) (f : Nat → Rat) (q : Rat) : splice (rowF n f) (i * 3) (cF q) = rowF n (fun j => if j = i then q else f j) := by
  unfold splice rowF
  rw [range_split hi]
  simp only [List.map_append, List.map_cons, List.map_map, List.flatMap_append, List.flatMap_cons, cF_len]
  have l1 : (((List.range i).map f).flatMap cF).length = i * 3 := by rw [flat_len cF_len]; simp
  rw [List.take_left' l1]
  have e3 : i * 3 + 3 = (((List.range i).map f).flatMap cF ++ cF (f i)).length := by rw [List.length_append, l1, cF_len]
  rw [← List.append_assoc (((List.range i).map f).flatMap cF) (cF (f i)), e3, List.drop_left]
  congr 1
  · congr 1
    exact List.map_congr_left fun j hj => by rw [if_neg]; have := List.mem_range.1 hj; omega
  · rw [if_pos True.intro]
    congr 2
    exact List.map_congr_left fun j _ => by simp only [Function.comp]; rw [if_neg (by omega)]
theorem rowF_at {n i : Nat} (hi : i < n) (f : Nat → Rat) : ((rowF n f).drop (i * 3)).take 3 = cF (f i) := by
  unfold rowF
  rw [flat_at cF_len (by simpa using hi) 0, List.getD_eq_getElem?_getD]
  simp [hi]
theorem rowF_row (n : Nat) (f : Nat → Rat) : (rowF n f).take (n * 3) = rowF n f := List.take_of_length_le (by rw [rowF_len]; omega)
theorem NumD_row (n : Nat) (f : Nat → Rat) : D.row n false (rowF n f) = NumD ((List.range n).map f) := by
  unfold NumD rowS rowF; simp
theorem ix_needF {i n : Nat} (h : i < n) : (0:Int) ≤ Int.ofNat i ∧ Int.ofNat i < (n : Int) := ⟨by simp, by simpa using h⟩
theorem ld_needF {i n : Nat} (h : i < n) (f : Nat → Rat) : 0 < 3 ∧ (Int.ofNat i).toNat * 3 + 3 ≤ (rowF n f).length := by
  have e : (Int.ofNat i).toNat = i := rfl
  rw [rowF_len, e]; omega
theorem st_needF {i n : Nat} (h : i < n) (f : Nat → Rat) : (Int.ofNat i).toNat * 3 + 3 ≤ (rowF n f).length := (ld_needF h f).2
def plF (a b : List Rat) (i j : Nat) : Rat := if j < i then a.getD j 0 + b.getD j 0 else a.getD j 0
theorem plF_at (a b : List Rat) (i : Nat) : plF a b i i = a.getD i 0 := by unfold plF; rw [if_neg (by omega)]
theorem plF_next {n i : Nat} (hi : i < n) (a b : List Rat) : splice (rowF n (plF a b i)) (i * 3) (cF (a.getD i 0 + b.getD i 0)) = rowF n (plF a b (i + 1)) := by
  rw [rowF_set hi]
  refine rowF_congr fun j _ => ?_
  unfold plF
  by_cases h : j = i
  · subst h; rw [if_pos rfl, if_pos (by omega)]
  · rw [if_neg h]
    by_cases h2 : j < i
    · rw [if_pos h2, if_pos (by omega)]
    · rw [if_neg h2, if_neg (by omega)]
def plInv (a b : List Rat) (n i : Nat) : St := lay 37 [(0, .gsl 0 n 3), (1, .row n false (rowF n fun j => b.getD j 0)), (19, nat n), (20, nat i)] [(0, rowF n (plF a b i))]
theorem pl_round (hG : Steady G) {a b : List Rat} {n i k l : Nat} (hi : i < n) (hn : n ≤ 1073741824) (ha : SzQ k (a.getD i 0)) (hb : SzQ l (b.getD i 0)) (hk : k ≤ KB) (hl : l ≤ KB) :
    Goes Tryz.prog G 0 (loopOf Tryz.f119 0) (plInv a b n i) .normal (plInv a b n (i + 1)) := by
  have e1 : D.agg (((rowF n (plF a b i)).drop ((Int.ofNat i).toNat * 3)).take 3) = F (a.getD i 0) := by
    have e : (Int.ofNat i).toNat = i := rfl
    rw [e, rowF_at hi, plF_at]; rfl
  have e2 : D.agg (((rowF n fun j => b.getD j 0).drop ((Int.ofNat i).toNat * 3)).take 3) = F (b.getD i 0) := by
    have e : (Int.ofNat i).toNat = i := rfl
    rw [e, rowF_at hi]; rfl
  have c := FAdd_spec (G := G) hG ha.isQ hb.isQ hk hl
  have e3 := plF_next hi a b
  have e4 : plInv a b n (i + 1) = lay 37 [(0, .gsl 0 n 3), (1, .row n false (rowF n fun j => b.getD j 0)), (19, nat n), (20, nat (i + 1))] [(0, splice (rowF n (plF a b i)) (i * 3) (cF (a.getD i 0 + b.getD i 0)))] := by
    rw [e3]; rfl
  rw [e4]
  have n1 : ((0:Int) ≤ Int.ofNat i ∧ Int.ofNat i < (n : Int)) ∧ (Int.ofNat i).toNat * 3 < (rowF n fun j => b.getD j 0).length := ⟨ix_needF hi, by have := (ld_needF hi (fun j => b.getD j 0)).2; omega⟩
  have n2 : 0 < 3 ∧ 3 ≤ ((rowF n fun j => b.getD j 0).drop ((Int.ofNat i).toNat * 3)).length := by
    have := (ld_needF hi (fun j => b.getD j 0)).2
    rw [List.length_drop]; omega
  exact Goes.of_run hG (ro := []) (m := 60) (lay_len ..)
    [.eq 21 (eqB (lt_true hi)), .prop (ix_needF hi), .prop (ld_needF hi (plF a b i)), .eq 28 e1, .prop n1, .prop n2, .eq 32 e2, .call c, .prop (ix_needF hi), .prop (st_needF hi (plF a b i)), .eq 35 (eqS (nat_succ' hi (by omega)))] (by kernel_rfl)
theorem wide_cells' (a : List Rat) (n : Nat) : splice ((List.replicate n zeroF).flatten) 0 ((a.flatMap cF).take (Nat.min a.length n * 3)) = rowF n (fun j => a.getD j 0) := wide_cells a n
theorem wide_spec' (hG : Steady G) (a : List Rat) {n : Nat} (hn : n ≤ 1073741824) : Spec Tryz.prog G 176 [NumD a, nat n] (.row n false (rowF n fun j => a.getD j 0)) := by
  have := wide_spec hG a hn
  rwa [NumD_wide] at this
theorem max_lenF (l m : List Rat) : (if Int.ofNat m.length > Int.ofNat l.length then Int.ofNat m.length else Int.ofNat l.length) = Int.ofNat (max l.length m.length) := by
  split
  · rename_i h; simp at h; rw [Nat.max_eq_right (by omega)]
  · rename_i h; simp at h; rw [Nat.max_eq_left (by omega)]
theorem plus_specT (hG : Steady G) {a b : List Rat} {k l : Nat} (ha : SzL k a) (hb : SzL l b) (hk0 : 0 < k) (hl0 : 0 < l) (hk : k ≤ KB) (hl : l ≤ KB) (hn : max a.length b.length ≤ 1073741824) :
    Spec Tryz.prog G 119 [NumD a, NumD b] (NumD (plusL a b)) := by
  have e0 : plusL a b = (List.range (max a.length b.length)).map (plF a b (max a.length b.length)) := by
    unfold plusL
    exact List.map_congr_left fun j hj => by unfold plF; rw [if_pos (List.mem_range.1 hj)]
  have e9 : max a.length b.length = max a.length b.length := rfl
  generalize hN : max a.length b.length = n at e0 hn e9
  have lp := Abs.count (P := Tryz.prog) (Good := G) (gb := 0) (body := loopOf Tryz.f119 0) (e := .exit 0) (s' := plInv a b n n) (fun i => plInv a b n i) n (fun i => lay_len ..) (by intro h; cases h)
    (fun i hi => pl_round hG hi hn (ha.getD hk0 i) (hb.getD hl0 i) hk hl) (Goes.of_run hG (ro := []) (m := 60) (lay_len ..) [.eq 21 (eqB (lt_false (Nat.le_refl n)))] (by kernel_rfl))
  have e1 : plInv a b n 0 = lay 37 [(0, .gsl 0 n 3), (1, .row n false (rowF n fun j => b.getD j 0)), (19, nat n), (20, nat 0)] [(0, splice ((List.replicate n zeroF).flatten) 0 ((a.flatMap cF).take (Nat.min a.length n * 3)))] := by
    rw [wide_cells']
    unfold plInv
    congr 3
  rw [e1] at lp
  have h2 := max_lenF a b
  rw [hN] at h2
  rw [e0, ← NumD_row, ← rowF_row]
  exact Spec.of_run hG Tryz.func119 (ro := []) (m := 60) [.eq 11 (eqS h2), .inl [] Tryz.func176, .prop (make_needF hn), .prop (copy_need a n), .call (wide_spec' hG b hn), .code lp] (by kernel_rfl)

/-! ### minus -/
def miF (a : List Rat) (i j : Nat) : Rat := if j < i then -(a.getD j 0) else 0
theorem miF_next {n i : Nat} (hi : i < n) (a : List Rat) : splice (rowF n (miF a i)) (i * 3) (cF (-(a.getD i 0))) = rowF n (miF a (i + 1)) := by
  rw [rowF_set hi]
  refine rowF_congr fun j _ => ?_
  unfold miF
  by_cases h : j = i
  · subst h; rw [if_pos rfl, if_pos (by omega)]
  · rw [if_neg h]
    by_cases h2 : j < i
    · rw [if_pos h2, if_pos (by omega)]
    · rw [if_neg h2, if_neg (by omega)]
def miInv (a : List Rat) (i : Nat) : St := lay 23 [(0, NumD a), (3, .gsl 0 a.length 3), (9, nat a.length), (10, nat i)] [(0, rowF a.length (miF a i))]
theorem mi_round (hG : Steady G) {a : List Rat} {i k : Nat} (hi : i < a.length) (hn : a.length ≤ 1073741824) (ha : SzL k a) (hk : k ≤ KB) :
    Goes Tryz.prog G 0 (loopOf Tryz.f64 0) (miInv a i) .normal (miInv a (i + 1)) := by
  have e := aggS cF_len hi 0
  have c := FNeg_spec (G := G) hG (ha _ (getD_mem hi 0)).isQ hk
  have e4 : miInv a (i + 1) = lay 23 [(0, NumD a), (3, .gsl 0 a.length 3), (9, nat a.length), (10, nat (i + 1))] [(0, splice (rowF a.length (miF a i)) (i * 3) (cF (-(a.getD i 0))))] := by
    rw [miF_next hi]; rfl
  rw [e4]
  generalize a.getD i 0 = q at e c
  exact Goes.of_run hG (ro := []) (m := 60) (lay_len ..)
    [.eq 11 (eqB (lt_true hi)), .prop (atS_need cF_len (by omega) hi), .prop (loadS_need cF_len (by omega) hi), .eq 18 e, .call c, .prop (ix_needF hi), .prop (st_needF hi (miF a i)), .eq 21 (eqS (nat_succ' hi (by omega)))] (by kernel_rfl)
theorem minus_spec (hG : Steady G) {a : List Rat} {k : Nat} (ha : SzL k a) (hk : k ≤ KB) (hn : a.length ≤ 1073741824) : Spec Tryz.prog G 64 [NumD a] (NumD (minusL a)) := by
  have e0 : minusL a = (List.range a.length).map (miF a a.length) := by
    apply List.ext_getElem
    · rw [minusL_len]; simp
    · intro j h1 h2
      rw [minusL_len] at h1
      simp only [minusL, List.getElem_map, List.getElem_range, miF]
      rw [if_pos h1, List.getD_eq_getElem?_getD, List.getElem?_eq_getElem h1]; rfl
  have lp := Abs.count (P := Tryz.prog) (Good := G) (gb := 0) (body := loopOf Tryz.f64 0) (e := .exit 0) (s' := miInv a a.length) (fun i => miInv a i) a.length (fun i => lay_len ..) (by intro h; cases h)
    (fun i hi => mi_round hG hi hn ha hk) (Goes.of_run hG (ro := []) (m := 60) (lay_len ..) [.eq 11 (eqB (lt_false (Nat.le_refl a.length)))] (by kernel_rfl))
  have e1 : miInv a 0 = lay 23 [(0, NumD a), (3, .gsl 0 a.length 3), (9, nat a.length), (10, nat 0)] [(0, (List.replicate a.length zeroF).flatten)] := by
    unfold miInv
    congr 3
    rw [flat_zero]
    unfold rowF
    congr 1
    apply List.ext_getElem
    · simp
    · intro j h1 h2; simp [miF]
  rw [e1] at lp
  rw [e0, ← NumD_row, ← rowF_row]
  exact Spec.of_run hG Tryz.func64 (ro := []) (m := 60) [.prop (make_needF hn), .code lp] (by kernel_rfl)

/-! ### join -/
theorem NumD_eq {a : List Rat} {n : Nat} (h : a.length = n) : NumD a = .row n false (a.flatMap cF) := by subst h; rfl
theorem join_need (a b : List Rat) {n : Nat} (h0 : 0 < n) (hn : n ≤ 1073741824) : ((wideL b n).flatMap cF).all D.cellOk = true ∧ 0 < n ∧ (splice ((List.replicate n zeroF).flatten) 0 ((a.flatMap cF).take (Nat.min a.length n * 3))).length = n * 3 ∧ ((wideL b n).flatMap cF).length = n * 3 ∧ n + n ≤ 2 ^ 62 ∧ (n + n) * 56 ≤ 2 ^ 47 := by
  have h62 : (2:Nat) ^ 62 = 4611686018427387904 := by decide
  have h47 : (2:Nat) ^ 47 = 140737488355328 := by decide
  rw [wide_cells, flat_len cF_len, flat_len cF_len, wideL_len, wideL_len]
  exact ⟨cF_ok _, h0, rfl, rfl, by omega, by omega⟩
theorem join_spec (hG : Steady G) (a b : List Rat) {n : Nat} (h0 : 0 < n) (hn : n ≤ 1073741824) : Spec Tryz.prog G 130 [NumD a, NumD b, nat n] (NumD (joinL a b n)) := by
  have e1 : NumD (joinL a b n) = .row (n + n) false ((splice ((List.replicate n zeroF).flatten) 0 ((a.flatMap cF).take (Nat.min a.length n * 3)) ++ (wideL b n).flatMap cF).take ((n + n) * 3)) := by
    rw [NumD_eq (joinL_len a b n), wide_cells]
    unfold joinL
    rw [← List.flatMap_append, List.take_of_length_le]
    rw [flat_len cF_len, List.length_append, wideL_len, wideL_len]; omega
  have w := wide_spec (G := G) hG b hn
  rw [NumD_wide] at w
  rw [e1]
  exact Spec.of_run hG Tryz.func130 (ro := []) (m := 60) [.inl [] Tryz.func176, .prop (make_needF hn), .prop (copy_need a n), .call w, .prop (join_need a b h0 hn)] (by kernel_rfl)

/-! ### copied -/
theorem num_raw (q : Rat) : cF q = [bool (rawOf q).s, rowW (rawOf q).n, rowW (rawOf q).d] := rfl
def coInv (l : List Rat) : Nat → St
  | 0 => lay 28 [(3, .row 0 true []), (6, NumD l), (7, nat l.length), (8, nat 0)] []
  | i + 1 => lay 28 [(3, .gsl 1 (i + 1) 3), (6, NumD l), (7, nat l.length), (8, nat (i + 1))] [(1, (l.take (i + 1)).flatMap cF)]
theorem take_succF {l : List Rat} {i : Nat} (hi : i < l.length) : (l.take (i + 1)).flatMap cF = (l.take i).flatMap cF ++ cF (l.getD i 0) := by
  rw [List.take_add_one, List.getElem?_eq_getElem hi, List.getD_eq_getElem?_getD, List.getElem?_eq_getElem hi, Option.toList_some, List.flatMap_append]
  simp
theorem app_needL {l : List Nat} (h : l.length ≤ 2 ^ 36) : ([] : List D).length = 0 * 1 ∧ (l.map u32).length = l.length * 1 ∧ 0 + l.length ≤ 2 ^ 62 ∧ (0 + l.length) * 4 ≤ 2 ^ 47 := app_need l.length h (l.map u32) (by simp)
theorem co_round (hG : Steady G) {l : List Rat} {i k : Nat} (hi : i < l.length) (hn : l.length ≤ 1073741824) (hl : SzL k l) (hk : k ≤ KB) :
    Goes Tryz.prog G 0 (loopOf Tryz.f174 0) (coInv l i) .normal (coInv l (i + 1)) := by
  have e := aggS cF_len hi 0
  have hq := hl _ (getD_mem hi 0)
  have h36 : (2:Nat) ^ 36 = 68719476736 := by decide
  have h62 : (2:Nat) ^ 62 = 4611686018427387904 := by decide
  have h47 : (2:Nat) ^ 47 = 140737488355328 := by decide
  have kb := KB_eq
  have o := hq.ok
  have e5 := take_succF hi
  obtain ⟨-, -, o1, o2, -⟩ := o
  generalize l.getD i 0 = q at e e5 o1 o2
  rw [num_raw] at e e5
  generalize (rawOf q).n = x at e e5 o1
  generalize (rawOf q).d = y at e e5 o2
  generalize (rawOf q).s = z at e e5
  cases i with
  | zero =>
    rw [List.take_zero, List.flatMap_nil] at e5
    simp only [coInv]
    rw [e5]
    exact Goes.of_run hG (ro := [18, 22]) (m := 60) (lay_len ..)
      [.eq 9 (eqB (lt_true hi)), .prop (atS_need cF_len (by omega) hi), .prop (loadS_need cF_len (by omega) hi), .eq 11 e, .eq 17 (Eq.refl (rowW x)), .prop (app_needL (l := x) (by omega)), .eq 18 (app_row x), .eq 21 (Eq.refl (rowW y)), .prop (app_needL (l := y) (by omega)), .eq 22 (app_row y),
       .eq 26 (eqS (nat_succ' hi (by omega)))] (by kernel_rfl)
  | succ i =>
    have n3 : [bool z, rowW x, rowW y].all D.cellOk = true ∧ 0 < 1 ∧ ((l.take (i + 1)).flatMap cF).length = (i + 1) * 3 ∧ [bool z, rowW x, rowW y].length = 1 * 3 ∧ i + 1 + 1 ≤ 2 ^ 62 ∧ (i + 1 + 1) * 56 ≤ 2 ^ 47 := by
      rw [flat_len cF_len, List.length_take]
      exact ⟨rfl, by omega, by omega, rfl, by omega, by omega⟩
    simp only [coInv]
    rw [e5]
    exact Goes.of_run hG (ro := [18, 22]) (m := 60) (lay_len ..)
      [.eq 9 (eqB (lt_true hi)), .prop (atS_need cF_len (by omega) hi), .prop (loadS_need cF_len (by omega) hi), .eq 11 e, .eq 17 (Eq.refl (rowW x)), .prop (app_needL (l := x) (by omega)), .eq 18 (app_row x), .eq 21 (Eq.refl (rowW y)), .prop (app_needL (l := y) (by omega)), .eq 22 (app_row y),
       .prop n3, .eq 26 (eqS (nat_succ' hi (by omega)))] (by kernel_rfl)
theorem copied_spec (hG : Steady G) {l : List Rat} {k : Nat} (hn : l.length ≤ 1073741824) (hl : SzL k l) (hk : k ≤ KB) : Spec Tryz.prog G 174 [NumD l] (NumD l) := by
  have lp := Abs.count (P := Tryz.prog) (Good := G) (gb := 0) (body := loopOf Tryz.f174 0) (e := .exit 0) (s' := coInv l l.length) (fun i => coInv l i) l.length (fun i => by cases i <;> exact lay_len ..) (by intro h; cases h)
    (fun i hi => co_round hG hi hn hl hk) (by
      rcases Nat.eq_zero_or_pos l.length with h | h
      · have : l = [] := List.eq_nil_of_length_eq_zero h
        subst this
        exact Goes.of_run hG (ro := [18, 22]) (m := 60) (lay_len ..) [] (by kernel_rfl)
      · obtain ⟨m, hm⟩ : ∃ m, l.length = m + 1 := ⟨l.length - 1, by omega⟩
        have e2 := eqB (lt_false (Nat.le_refl l.length))
        rw [hm]
        rw [hm] at e2
        simp only [coInv]
        rw [hm]
        exact Goes.of_run hG (ro := [18, 22]) (m := 60) (lay_len ..) [.eq 9 e2] (by kernel_rfl))
  rcases Nat.eq_zero_or_pos l.length with h | h
  · have : l = [] := List.eq_nil_of_length_eq_zero h
    subst this
    exact Spec.of_run hG Tryz.func174 (ro := [18, 22]) (m := 60) [.code lp] (by kernel_rfl)
  · obtain ⟨m, hm⟩ : ∃ m, l.length = m + 1 := ⟨l.length - 1, by omega⟩
    have e2 : coInv l l.length = lay 28 [(3, .gsl 1 l.length 3), (6, NumD l), (7, nat l.length), (8, nat l.length)] [(1, l.flatMap cF)] := by
      rw [hm]; simp only [coInv]; rw [hm, ← hm, List.take_length]
    rw [e2] at lp
    have e3 : NumD l = .row l.length false ((l.flatMap cF).take (l.length * 3)) := by
      rw [List.take_of_length_le (by rw [flat_len cF_len]; omega)]; rfl
    have key : Spec Tryz.prog G 174 [NumD l] (.row l.length false ((l.flatMap cF).take (l.length * 3))) :=
      Spec.of_run hG Tryz.func174 (ro := [18, 22]) (m := 60) [.code lp] (by kernel_rfl)
    rwa [← e3] at key
end Tw
end Lw
