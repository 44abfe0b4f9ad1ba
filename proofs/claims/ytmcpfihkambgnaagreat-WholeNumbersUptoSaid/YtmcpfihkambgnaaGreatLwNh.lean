/- The program's products, norms, signs and inverses of numbers of towers, run. Condition: the numbers are of bounded size. -/
import Derived.Test.YtmcpfihkambgnaaGreatLwNg
namespace Lw
namespace Fld
/-- As many bits as a fraction of KB words holds. -/
def NB : Nat := 8589934591
theorem NB_eq : NB = 8589934591 := rfl
theorem Bt.fit {n : Nat} {l : List Rat} (h : Bt n l) (hn : n ≤ NB) : Tw.SzL KB l := h.sz (by rw [KB_eq]; rw [NB_eq] at hn; omega)
theorem BtT.root {δ : Nat} {t : Tow} (h : BtT δ t) (j : Nat) : Bt δ (t.getD j []) := by
  obtain ⟨Δ, Β, h1, h2, h3, h4⟩ := h
  exact ⟨Δ, Β, h1, h2, h3, h4 j⟩
end Fld
namespace Tw
open Go Go.RowKit Go.Proofs Fld

theorem KB_pos : 0 < KB := by rw [KB_eq]; omega
/-- A list of N fractions, as data. -/
def numN (N : Nat) (a : List Rat) : D := .row N false (a.flatMap cF)
theorem numN_eq {a : List Rat} {N : Nat} (h : a.length = N) : NumD a = numN N a := by subst h; rfl
theorem sl_eq {a : List Rat} {l u : Nat} (h : l ≤ u) (hu : u ≤ a.length) :
    D.row ((Int.ofNat u).toNat - (Int.ofNat l).toNat) false (((a.flatMap cF).drop ((Int.ofNat l).toNat * 3)).take (((Int.ofNat u).toNat - (Int.ofNat l).toNat) * 3)) = NumD ((a.take u).drop l) := by
  have e1 : (Int.ofNat u).toNat = u := rfl
  have e2 : (Int.ofNat l).toNat = l := rfl
  rw [e1, e2, flat_drop cF_len, flat_take cF_len]
  unfold NumD rowS
  rw [List.drop_take, List.length_take, List.length_drop, Nat.min_eq_left (by omega)]
theorem sl_lo {a : List Rat} {u : Nat} (hu : u ≤ a.length) :
    D.row ((Int.ofNat u).toNat - (0 : Int).toNat) false (((a.flatMap cF).drop ((0 : Int).toNat * 3)).take (((Int.ofNat u).toNat - (0 : Int).toNat) * 3)) = NumD (a.take u) := sl_eq (Nat.zero_le u) hu
theorem sl_hi {a : List Rat} {l N : Nat} (h : l ≤ N) (hN : a.length = N) :
    D.row ((Int.ofNat N).toNat - (Int.ofNat l).toNat) false (((a.flatMap cF).drop ((Int.ofNat l).toNat * 3)).take (((Int.ofNat N).toNat - (Int.ofNat l).toNat) * 3)) = NumD (a.drop l) := by
  have := sl_eq (a := a) h (by omega : N ≤ a.length)
  rwa [List.take_of_length_le (by omega : a.length ≤ N)] at this
theorem sl_need {l u N : Nat} (h : l ≤ u) (hu : u ≤ N) : (0 : Int) ≤ Int.ofNat l ∧ Int.ofNat l ≤ Int.ofNat u ∧ Int.ofNat u ≤ (N : Int) :=
  ⟨by simp, by simpa using h, by simpa using hu⟩
theorem sl_need0 {u N : Nat} (hu : u ≤ N) : (0 : Int) ≤ (0 : Int) ∧ (0 : Int) ≤ Int.ofNat u ∧ Int.ofNat u ≤ (N : Int) := sl_need (Nat.zero_le u) hu
theorem half_2 {j : Nat} (h : j ≤ 30) : IntKind.wrap .i64 ((Int.ofNat (2 ^ (j + 1))).tdiv 2) = Int.ofNat (2 ^ j) := by
  have e : (Int.ofNat (2 ^ (j + 1))).tdiv 2 = Int.ofNat (2 ^ (j + 1) / 2) := rfl
  rw [e, half_pow]
  have : 2 ^ j ≤ 2 ^ 30 := Nat.pow_le_pow_right (by omega) h
  have e30 : (2:Nat) ^ 30 = 1073741824 := by decide
  generalize 2 ^ j = N at *
  rw [wrapS (by simp only [Int.ofNat_eq_natCast]; omega) (by simp only [Int.ofNat_eq_natCast]; omega)]
theorem pow_le30 {j : Nat} (h : j ≤ 30) : 2 ^ j ≤ 1073741824 := by
  have : 2 ^ j ≤ 2 ^ 30 := Nat.pow_le_pow_right (by omega) h
  have e30 : (2:Nat) ^ 30 = 1073741824 := by decide
  omega
theorem ge2 (j : Nat) : 2 ≤ 2 ^ (j + 1) := by have := pow_pos' j; rw [Nat.pow_succ]; omega
theorem ne1 (j : Nat) : (Int.ofNat (2 ^ (j + 1)) == 1) = false := by
  rw [beq_eq_false_iff_ne]
  have := ge2 j
  simp only [Int.ofNat_eq_natCast]; omega
theorem ne0 (j : Nat) : (Int.ofNat (2 ^ (j + 1)) == 0) = false := by
  rw [beq_eq_false_iff_ne]
  have := ge2 j
  simp only [Int.ofNat_eq_natCast]; omega
theorem gt1 (j : Nat) : decide (Int.ofNat (2 ^ (j + 1)) > 1) = true := by
  have := ge2 j
  rw [decide_eq_true_iff]
  simp only [Int.ofNat_eq_natCast]; omega
theorem pred_ix {j : Nat} (h : j ≤ 30) : IntKind.wrap .i64 (Int.ofNat (j + 1) - 1) = Int.ofNat j := by
  have e : Int.ofNat (j + 1) - 1 = Int.ofNat j := by simp only [Int.ofNat_eq_natCast]; omega
  rw [e, wrapS (by simp only [Int.ofNat_eq_natCast]; omega) (by simp only [Int.ofNat_eq_natCast]; omega)]

variable {G : World → Prop}

/-! ### The rows of a tower -/
theorem row_need {t : Tow} {j : Nat} (h : j < t.length) : ((0:Int) ≤ Int.ofNat j ∧ Int.ofNat j < (t.length : Int)) ∧ (Int.ofNat j).toNat * 1 < (t.map NumD).length := by
  have e : (Int.ofNat j).toNat = j := rfl
  rw [e, List.length_map]
  exact ⟨⟨by simp, by simpa using h⟩, by omega⟩
theorem row_load {t : Tow} {j : Nat} (h : j < t.length) : 0 < 1 ∧ 1 ≤ ((t.map NumD).drop ((Int.ofNat j).toNat * 1)).length := by
  have e : (Int.ofNat j).toNat = j := rfl
  rw [e, List.length_drop, List.length_map]; omega
theorem row_at {t : Tow} {j : Nat} (h : j < t.length) : ((t.map NumD).drop ((Int.ofNat j).toNat * 1)).headD .any = NumD (t.getD j []) := by
  have e : (Int.ofNat j).toNat = j := rfl
  rw [e, Nat.mul_one, List.drop_eq_getElem_cons (by rw [List.length_map]; exact h)]
  rw [List.headD_cons, List.getElem_map, List.getD_eq_getElem?_getD, List.getElem?_eq_getElem h]
  rfl

/-! ### Short -/
/-- The level that is left. -/
def cutI (a : List Rat) : Nat → Nat
  | 0 => 0
  | k + 1 => if zeroL ((a.take (2 ^ (k + 1))).drop (2 ^ k)) then cutI a k else k + 1
theorem cutI_le (a : List Rat) : ∀ k, cutI a k ≤ k
  | 0 => Nat.le_refl _
  | k + 1 => by
    have := cutI_le a k
    unfold cutI
    split <;> omega
theorem cutL_cutI (a : List Rat) : ∀ k, cutL k (a.take (2 ^ k)) = if cutI a k = 0 ∧ zeroL (a.take 1) = true then [] else a.take (2 ^ cutI a k)
  | 0 => by
    unfold cutL cutI
    simp only [Nat.pow_zero, true_and]
  | k + 1 => by
    unfold cutL cutI
    split
    · have := cutL_cutI a k
      rw [List.take_take, Nat.min_eq_left (Nat.pow_le_pow_right (by omega) (by omega))]
      exact this
    · rw [if_neg (by omega)]
theorem shortL_cutI {a : List Rat} {j : Nat} (ha : a.length = 2 ^ j) : shortL a = if cutI a j = 0 ∧ zeroL (a.take 1) = true then [] else a.take (2 ^ cutI a j) := by
  have := pow_pos' j
  unfold shortL
  rw [if_neg (by omega), ha, log2_pow, ← cutL_cutI]
  rw [List.take_of_length_le (by omega)]
def shInv (a : List Rat) (j i : Nat) : St := lay 45 [(0, numN (2 ^ j) a), (2, .row 0 true []), (4, nat (2 ^ i))] []
theorem sh_round (hG : Steady G) {a : List Rat} {j i : Nat} (ha : a.length = 2 ^ j) (hi : i < j) (hj : j ≤ 30) (hz : zeroL ((a.take (2 ^ (i + 1))).drop (2 ^ i)) = true) :
    Goes Tryz.prog G 0 (loopOf Tryz.f118 0) (shInv a j (i + 1)) .normal (shInv a j i) := by
  have l1 : 2 ^ (i + 1) ≤ 2 ^ j := Nat.pow_le_pow_right (by omega) hi
  have l2 : 2 ^ i ≤ 2 ^ (i + 1) := Nat.pow_le_pow_right (by omega) (by omega)
  have hb := pow_le30 hj
  have e := sl_eq (a := a) l2 (by omega)
  have c := empty_spec (G := G) hG (l := (a.take (2 ^ (i + 1))).drop (2 ^ i)) (by rw [List.length_drop, List.length_take]; omega)
  rw [hz] at c
  exact Goes.of_run hG (ro := []) (m := 60) (lay_len ..)
    [.eq 23 (eqB (gt1 i)), .eq 27 (eqS (half_2 (j := i) (by omega))), .prop (sl_need l2 l1), .eq 29 e, .call c, .eq 33 (eqS (half_2 (j := i) (by omega)))] (by kernel_rfl)
theorem sh_last (hG : Steady G) {a : List Rat} {j i : Nat} (ha : a.length = 2 ^ j) (hi : i < j) (hj : j ≤ 30) (hz : zeroL ((a.take (2 ^ (i + 1))).drop (2 ^ i)) = false) :
    Goes Tryz.prog G 0 (loopOf Tryz.f118 0) (shInv a j (i + 1)) (.exit 0) (shInv a j (i + 1)) := by
  have l1 : 2 ^ (i + 1) ≤ 2 ^ j := Nat.pow_le_pow_right (by omega) hi
  have l2 : 2 ^ i ≤ 2 ^ (i + 1) := Nat.pow_le_pow_right (by omega) (by omega)
  have hb := pow_le30 hj
  have e := sl_eq (a := a) l2 (by omega)
  have c := empty_spec (G := G) hG (l := (a.take (2 ^ (i + 1))).drop (2 ^ i)) (by rw [List.length_drop, List.length_take]; omega)
  rw [hz] at c
  exact Goes.of_run hG (ro := []) (m := 60) (lay_len ..)
    [.eq 23 (eqB (gt1 i)), .eq 27 (eqS (half_2 (j := i) (by omega))), .prop (sl_need l2 l1), .eq 29 e, .call c] (by kernel_rfl)
theorem sh_loop (hG : Steady G) {a : List Rat} {j : Nat} (ha : a.length = 2 ^ j) (hj : j ≤ 30) :
    Abs Tryz.prog G 45 0 (.loop (loopOf Tryz.f118 0)) (shInv a j j) (.exit 0) (shInv a j (cutI a j)) := by
  refine Abs.rounds (P := Tryz.prog) (Good := G) (gb := 0) (fun i => i ≤ j ∧ cutI a i = cutI a j) (fun i => shInv a j i) id (fun i => lay_len ..) (by intro h; cases h) (fun i hi => ?_) j ⟨Nat.le_refl j, rfl⟩
  cases i with
  | zero =>
    right
    have : cutI a j = 0 := by rw [← hi.2]; rfl
    rw [this]
    exact Goes.of_run hG (ro := []) (m := 60) (lay_len ..) [] (by kernel_rfl)
  | succ i =>
    cases hz : zeroL ((a.take (2 ^ (i + 1))).drop (2 ^ i)) with
    | true =>
      left
      refine ⟨i, ⟨by omega, ?_⟩, by simp, sh_round hG ha (by omega) hj hz⟩
      rw [← hi.2, cutI, if_pos hz]
    | false =>
      right
      have : cutI a j = i + 1 := by rw [← hi.2, cutI, if_neg (by rw [hz]; simp)]
      rw [this]
      exact sh_last hG ha (by omega) hj hz
theorem Short_spec (hG : Steady G) {a : List Rat} {k : Nat} (hs : Sh k a) (hk : k ≤ 5) (hl : SzL KB a) : Spec Tryz.prog G 118 [NumD a] (NumD (shortL a)) := by
  rcases hs with rfl | ⟨j, hj, ha⟩
  · have c := copied_spec (G := G) hG (l := []) (k := KB) (by simp) hl (Nat.le_refl _)
    exact Spec.of_run hG Tryz.func118 (ro := []) (m := 60) [.call (level_0 hG []), .call c] (by kernel_rfl)
  · rw [numN_eq ha, shortL_cutI ha]
    have hi := cutI_le a j
    have lp := sh_loop (G := G) hG ha (by omega)
    have lv := level_spec (G := G) hG (k := j) (by omega) (a.flatMap cF)
    have pj := pow_pos' j
    have bj := pow_le30 (j := j) (by omega)
    have g1 : decide (Int.ofNat (2 ^ j) > 0) = true := by rw [decide_eq_true_iff]; simp only [Int.ofNat_eq_natCast]; omega
    have g2 : decide (Int.ofNat j < 0) = false := by rw [decide_eq_false_iff_not]; simp only [Int.ofNat_eq_natCast]; omega
    have g3 : decide (Int.ofNat j > 5) = false := by rw [decide_eq_false_iff_not]; simp only [Int.ofNat_eq_natCast]; omega
    generalize cutI a j = i at *
    have l1 : 2 ^ i ≤ 2 ^ j := Nat.pow_le_pow_right (by omega) hi
    have e := sl_lo (a := a) (u := 2 ^ i) (by omega)
    have c := copied_spec (G := G) hG (l := a.take (2 ^ i)) (k := KB) (by rw [List.length_take]; omega) (hl.take _) (Nat.le_refl _)
    cases i with
    | zero =>
      have e1 := sl_lo (a := a) (u := 1) (by omega)
      have c1 := empty_spec (G := G) hG (l := a.take 1) (by rw [List.length_take]; omega)
      cases hz : zeroL (a.take 1) with
      | true =>
        rw [if_pos ⟨rfl, rfl⟩]
        rw [hz] at c1
        exact Spec.of_run hG Tryz.func118 (ro := []) (m := 60)
          [.call lv, .eq 9 (eqB g1), .eq 12 (eqB g2), .eq 15 (eqB g3), .code lp, .prop (sl_need0 (u := 1) pj), .eq 38 e1, .call c1] (by kernel_rfl)
      | false =>
        rw [if_neg (by simp)]
        rw [hz] at c1
        exact Spec.of_run hG Tryz.func118 (ro := []) (m := 60)
          [.call lv, .eq 9 (eqB g1), .eq 12 (eqB g2), .eq 15 (eqB g3), .code lp, .prop (sl_need0 (u := 1) pj), .eq 38 e1, .call c1, .prop (sl_need0 l1), .eq 43 e, .call c] (by kernel_rfl)
    | succ i =>
      rw [if_neg (by omega)]
      exact Spec.of_run hG Tryz.func118 (ro := []) (m := 60)
        [.call lv, .eq 9 (eqB g1), .eq 12 (eqB g2), .eq 15 (eqB g3), .code lp, .eq 35 (eqB (ne1 i)), .prop (sl_need0 l1), .eq 43 e, .call c] (by kernel_rfl)

/-! ### times -/
theorem zero_specN (hG : Steady G) {l : List Rat} {N : Nat} (hN : l.length = N) (hb : N ≤ 9223372036854775807) (hl : SzL KB l) : Spec Tryz.prog G 129 [numN N l] (bool (zeroL l)) := by
  rw [← numN_eq hN]
  exact zero_spec hG (k := KB) (by omega) hl (Nat.le_refl _)
/-- The two factors, maybe the shorter one ahead. -/
def two (sw : Bool) (p q : D) : List D := if sw then [q, p] else [p, q]
/-- What the product is, the longer factor ahead, none of them 0. -/
def tmP (t : Tow) (k : Nat) (p q : List Rat) : List Rat :=
  if p.length = 1 then [p.getD 0 0 * q.getD 0 0] else
  if q.length ≤ p.length / 2 then joinL (tmsL t k (p.take (p.length / 2)) q) (tmsL t k (p.drop (p.length / 2)) q) (p.length / 2) else
  joinL (plusL (tmsL t k (p.take (p.length / 2)) (q.take (p.length / 2))) (tmsL t k (tmsL t k (p.drop (p.length / 2)) (q.drop (p.length / 2))) (t.getD (Nat.log2 (p.length / 2)) [])))
    (plusL (tmsL t k (p.take (p.length / 2)) (q.drop (p.length / 2))) (tmsL t k (p.drop (p.length / 2)) (q.take (p.length / 2)))) (p.length / 2)
theorem tmsL_succ (t : Tow) (k : Nat) (a b : List Rat) : tmsL t (k + 1) a b = if zeroL a || zeroL b then [] else tmP t k (if a.length < b.length then b else a) (if a.length < b.length then a else b) := rfl
theorem lt_len {m n : Nat} (h : m < n) : decide (Int.ofNat m < Int.ofNat n) = true := lt_true h
theorem le_len {m n : Nat} (h : m ≤ n) : decide (Int.ofNat m ≤ Int.ofNat n) = true := by rw [decide_eq_true_iff]; simpa using h
theorem nle_len {m n : Nat} (h : n < m) : decide (Int.ofNat m ≤ Int.ofNat n) = false := by rw [decide_eq_false_iff_not]; simpa using h
theorem tm_zero1 (hG : Steady G) {t : Tow} {p q : List Rat} (sw : Bool) (h : decide (Int.ofNat (if sw then q else p).length < Int.ofNat (if sw then p else q).length) = sw) (hp : p.length ≤ 64) (hl : SzL KB p) (hz : zeroL p = true) :
    Spec Tryz.prog G 59 (TowD t :: two sw (NumD p) (NumD q)) (NumD []) := by
  have z := zero_spec (G := G) hG (k := KB) (l := p) (by omega) hl (Nat.le_refl _)
  rw [hz] at z
  cases sw with
  | false => exact Spec.of_run hG Tryz.func59 (ro := [3]) (m := 60) [.eq 18 (eqB h), .call z] (by kernel_rfl)
  | true => exact Spec.of_run hG Tryz.func59 (ro := [3]) (m := 60) [.eq 18 (eqB h), .call z] (by kernel_rfl)
theorem tm_zero2 (hG : Steady G) {t : Tow} {p q : List Rat} (sw : Bool) (h : decide (Int.ofNat (if sw then q else p).length < Int.ofNat (if sw then p else q).length) = sw) (hp : p.length ≤ 64) (hq : q.length ≤ 64) (hl : SzL KB p) (hl' : SzL KB q)
    (hz : zeroL p = false) (hz' : zeroL q = true) : Spec Tryz.prog G 59 (TowD t :: two sw (NumD p) (NumD q)) (NumD []) := by
  have z := zero_spec (G := G) hG (k := KB) (l := p) (by omega) hl (Nat.le_refl _)
  have z' := zero_spec (G := G) hG (k := KB) (l := q) (by omega) hl' (Nat.le_refl _)
  rw [hz] at z
  rw [hz'] at z'
  cases sw with
  | false => exact Spec.of_run hG Tryz.func59 (ro := [3]) (m := 60) [.eq 18 (eqB h), .call z, .call z'] (by kernel_rfl)
  | true => exact Spec.of_run hG Tryz.func59 (ro := [3]) (m := 60) [.eq 18 (eqB h), .call z, .call z'] (by kernel_rfl)
theorem tm_one (hG : Steady G) {t : Tow} {x y : Rat} (hl : SzL KB [x]) (hl' : SzL KB [y]) (hz : zeroL [x] = false) (hz' : zeroL [y] = false) :
    Spec Tryz.prog G 59 [TowD t, NumD [x], NumD [y]] (NumD [x * y]) := by
  have z := zero_spec (G := G) hG (k := KB) (l := [x]) (by simp) hl (Nat.le_refl _)
  have z' := zero_spec (G := G) hG (k := KB) (l := [y]) (by simp) hl' (Nat.le_refl _)
  rw [hz] at z
  rw [hz'] at z'
  have c := FMul_spec (G := G) hG (hl x (by simp)).isQ (hl' y (by simp)).isQ (Nat.le_refl _) (Nat.le_refl _)
  exact Spec.of_run hG Tryz.func59 (ro := [3]) (m := 60) [.call z, .call z', .call c] (by kernel_rfl)
theorem tm_low (hG : Steady G) {t : Tow} {p q r1 r2 : List Rat} {j : Nat} (sw : Bool) (h : decide (Int.ofNat (if sw then q else p).length < Int.ofNat (if sw then p else q).length) = sw) (hp : p.length = 2 ^ (j + 1)) (hj : j ≤ 5) (hq : q.length ≤ 2 ^ j) (hl : SzL KB p) (hl' : SzL KB q)
    (hz : zeroL p = false) (hz' : zeroL q = false)
    (c1 : Spec Tryz.prog G 59 [TowD t, NumD (p.take (2 ^ j)), NumD q] (NumD r1)) (c2 : Spec Tryz.prog G 59 [TowD t, NumD (p.drop (2 ^ j)), NumD q] (NumD r2)) :
    Spec Tryz.prog G 59 (TowD t :: two sw (NumD p) (NumD q)) (NumD (joinL r1 r2 (2 ^ j))) := by
  have pj := pow_pos' j
  have bj := pow_le30 (j := j + 1) (by omega)
  have e2 : 2 ^ (j + 1) = 2 ^ j + 2 ^ j := by rw [Nat.pow_succ]; omega
  have z := zero_specN (G := G) hG (l := p) hp (by omega) hl
  have z' := zero_spec (G := G) hG (k := KB) (l := q) (by omega) hl' (Nat.le_refl _)
  have e45 := sl_lo (a := p) (u := 2 ^ j) (by omega)
  have e48 := sl_hi (a := p) (l := 2 ^ j) (by omega : 2 ^ j ≤ 2 ^ (j + 1)) hp
  have c3 := join_spec (G := G) hG r1 r2 pj (by omega : 2 ^ j ≤ 1073741824)
  rw [hz] at z
  rw [hz'] at z'
  rw [numN_eq hp]
  cases sw with
  | false =>
    simp only [hp, Bool.false_eq_true, if_false] at h
    exact Spec.of_run hG Tryz.func59 (ro := [3]) (m := 60)
      [.eq 18 (eqB h), .call z, .call z', .eq 31 (eqB (ne1 j)), .eq 42 (eqS (half_2 (j := j) (by omega))), .prop (sl_need0 (u := 2 ^ j) (N := 2 ^ (j + 1)) (by omega)), .eq 45 e45, .prop (sl_need (l := 2 ^ j) (u := 2 ^ (j + 1)) (N := 2 ^ (j + 1)) (by omega) (by omega)), .eq 48 e48,
       .eq 52 (eqB (le_len hq)), .call c1, .call c2, .call c3] (by kernel_rfl)
  | true =>
    simp only [hp, if_true] at h
    exact Spec.of_run hG Tryz.func59 (ro := [3]) (m := 60)
      [.eq 18 (eqB h), .call z, .call z', .eq 31 (eqB (ne1 j)), .eq 42 (eqS (half_2 (j := j) (by omega))), .prop (sl_need0 (u := 2 ^ j) (N := 2 ^ (j + 1)) (by omega)), .eq 45 e45, .prop (sl_need (l := 2 ^ j) (u := 2 ^ (j + 1)) (N := 2 ^ (j + 1)) (by omega) (by omega)), .eq 48 e48,
       .eq 52 (eqB (le_len hq)), .call c1, .call c2, .call c3] (by kernel_rfl)
theorem tm_high (hG : Steady G) {t : Tow} {p q xu yv yvd lo xv yu hi : List Rat} {j : Nat} (hp : p.length = 2 ^ (j + 1)) (hj : j ≤ 4) (hq : q.length = 2 ^ (j + 1)) (hjt : j < t.length) (hl : SzL KB p) (hl' : SzL KB q)
    (hz : zeroL p = false) (hz' : zeroL q = false)
    (c1 : Spec Tryz.prog G 59 [TowD t, NumD (p.take (2 ^ j)), NumD (q.take (2 ^ j))] (NumD xu)) (c2 : Spec Tryz.prog G 59 [TowD t, NumD (p.drop (2 ^ j)), NumD (q.drop (2 ^ j))] (NumD yv))
    (c3 : Spec Tryz.prog G 59 [TowD t, NumD yv, NumD (t.getD j [])] (NumD yvd)) (c4 : Spec Tryz.prog G 119 [NumD xu, NumD yvd] (NumD lo))
    (c5 : Spec Tryz.prog G 59 [TowD t, NumD (p.take (2 ^ j)), NumD (q.drop (2 ^ j))] (NumD xv)) (c6 : Spec Tryz.prog G 59 [TowD t, NumD (p.drop (2 ^ j)), NumD (q.take (2 ^ j))] (NumD yu))
    (c7 : Spec Tryz.prog G 119 [NumD xv, NumD yu] (NumD hi)) :
    Spec Tryz.prog G 59 [TowD t, NumD p, NumD q] (NumD (joinL lo hi (2 ^ j))) := by
  have pj := pow_pos' j
  have bj := pow_le30 (j := j + 1) (by omega)
  have e2 : 2 ^ (j + 1) = 2 ^ j + 2 ^ j := by rw [Nat.pow_succ]; omega
  have z := zero_specN (G := G) hG (l := p) hp (by omega) hl
  have z' := zero_specN (G := G) hG (l := q) hq (by omega) hl'
  have e45 := sl_lo (a := p) (u := 2 ^ j) (by omega)
  have e48 := sl_hi (a := p) (l := 2 ^ j) (by omega : 2 ^ j ≤ 2 ^ (j + 1)) hp
  have e65 := sl_lo (a := q) (u := 2 ^ j) (by omega)
  have e68 := sl_hi (a := q) (l := 2 ^ j) (by omega : 2 ^ j ≤ 2 ^ (j + 1)) hq
  have c8 := join_spec (G := G) hG lo hi pj (by omega : 2 ^ j ≤ 1073741824)
  have lv := level_spec (G := G) hG (k := j + 1) (by omega) (p.flatMap cF)
  rw [hz] at z
  rw [hz'] at z'
  rw [numN_eq hp, numN_eq hq]
  exact Spec.of_run hG Tryz.func59 (ro := [3]) (m := 60)
    [.eq 18 (eqB (lt_false (Nat.le_refl (2 ^ (j + 1))))), .call z, .call z', .eq 31 (eqB (ne1 j)), .eq 42 (eqS (half_2 (j := j) (by omega))), .prop (sl_need0 (u := 2 ^ j) (N := 2 ^ (j + 1)) (by omega)), .eq 45 e45, .prop (sl_need (l := 2 ^ j) (u := 2 ^ (j + 1)) (N := 2 ^ (j + 1)) (by omega) (by omega)), .eq 48 e48,
     .eq 52 (eqB (nle_len (m := 2 ^ (j + 1)) (n := 2 ^ j) (by omega))), .prop (sl_need0 (u := 2 ^ j) (N := 2 ^ (j + 1)) (by omega)), .eq 65 e65, .prop (sl_need (l := 2 ^ j) (u := 2 ^ (j + 1)) (N := 2 ^ (j + 1)) (by omega) (by omega)), .eq 68 e68,
     .call lv, .eq 73 (eqS (pred_ix (j := j) (by omega))), .prop (row_need hjt), .prop (row_load hjt), .eq 75 (row_at hjt), .call c1, .call c2, .call c3, .call c4, .call c5, .call c6, .call c7, .call c8] (by kernel_rfl)
theorem len64 {k : Nat} {a : List Rat} (hs : Sh k a) (hk : k ≤ 5) : a.length ≤ 32 := by
  have h1 := hs.len
  have h2 : 2 ^ k ≤ 2 ^ 5 := Nat.pow_le_pow_right (by omega) hk
  have e : (2:Nat) ^ 5 = 32 := by decide
  omega
theorem not_or_zero {a b : List Rat} (h : (zeroL a || zeroL b) = false) : zeroL a = false ∧ zeroL b = false := by
  rw [Bool.or_eq_false_iff] at h; exact h
theorem ne_nil_of {a : List Rat} (h : zeroL a = false) : a ≠ [] := fun e => by rw [e, zeroL_nil] at h; cases h
theorem one_of {k : Nat} {a : List Rat} (hs : Sh k a) (hz : zeroL a = false) (h1 : a.length ≤ 1) : ∃ x, a = [x] := by
  match a, h1, hz with
  | [], _, hz => rw [zeroL_nil] at hz; cases hz
  | [x], _, _ => exact ⟨x, rfl⟩
  | _ :: _ :: _, h1, _ => simp at h1
theorem times_spec (hG : Steady G) {t : Tow} {δ : Nat} (hT : BtT δ t) : ∀ (k : Nat) (a b : List Rat) (m n : Nat), k ≤ 5 → k ≤ t.length → ShT k t → Sh k a → Sh k b → Bt m a → Bt n b → m + n + mkk k * δ + ck k ≤ NB →
    Spec Tryz.prog G 59 [TowD t, NumD a, NumD b] (NumD (tmsL t k a b))
  | 0, a, b, m, n, _, _, _, sa, sb, ha, hb, hN => by
    have la := ha.fit (by omega)
    have lb := hb.fit (by omega)
    have n1 : a.length ≤ 1 := by have := sa.len; simpa using this
    have n2 : b.length ≤ 1 := by have := sb.len; simpa using this
    unfold tmsL
    cases hz : zeroL a with
    | true =>
      rw [if_pos (by rfl)]
      rcases Nat.lt_or_ge a.length b.length with h | h
      · -- a is empty, b has one
        cases hz' : zeroL b with
        | true =>
          exact tm_zero1 hG (p := b) (q := a) true (lt_len h) (by omega) lb hz'
        | false =>
          exact tm_zero2 hG (p := b) (q := a) true (lt_len h) (by omega) (by omega) lb la hz' hz
      · exact tm_zero1 hG (p := a) (q := b) false (lt_false h) (by omega) la hz
    | false =>
      cases hz' : zeroL b with
      | true =>
        rw [if_pos (by rfl)]
        have : 0 < a.length := List.length_pos_iff.2 (ne_nil_of hz)
        exact tm_zero2 hG (p := a) (q := b) false (lt_false (show b.length ≤ a.length by omega)) (by omega) (by omega) la lb hz hz'
      | false =>
        rw [if_neg (by simp)]
        obtain ⟨x, rfl⟩ := one_of sa hz n1
        obtain ⟨y, rfl⟩ := one_of sb hz' n2
        exact tm_one hG la lb hz hz'
  | k + 1, a, b, m, n, hk, hkt, hS, sa, sb, ha, hb, hN => by
    have hS' : ShT k t := fun j hj => hS j (by omega)
    have la := ha.fit (by omega)
    have lb := hb.fit (by omega)
    have n1 := len64 sa hk
    have n2 := len64 sb hk
    have eN : mkk (k + 1) * δ = mkk k * δ + mkk k * δ + δ := by simp only [mkk]; rw [Nat.succ_mul, Nat.mul_assoc]; omega
    simp only [ck] at hN
    rw [tmsL_succ]
    -- the longer one ahead
    have key : ∀ (sw : Bool) (p q : List Rat) (m n : Nat), decide (Int.ofNat (if sw then q else p).length < Int.ofNat (if sw then p else q).length) = sw → q.length ≤ p.length → (q.length < p.length ∨ sw = false) → Sh (k + 1) p → Sh (k + 1) q → Bt m p → Bt n q → SzL KB p → SzL KB q → p.length ≤ 32 → q.length ≤ 32 →
        m + n + mkk (k + 1) * δ + (2 * ck k + 2) ≤ NB → Spec Tryz.prog G 59 (TowD t :: two sw (NumD p) (NumD q)) (NumD (if zeroL p || zeroL q then [] else tmP t k p q)) := by
      intro sw p q m n hsw hle hsl sp sq hp hq lp lq np nq hN
      cases hz : zeroL p with
      | true => rw [if_pos (by rfl)]; exact tm_zero1 hG sw hsw (by omega) lp hz
      | false =>
        cases hz' : zeroL q with
        | true => rw [if_pos (by rfl)]; exact tm_zero2 hG sw hsw (by omega) (by omega) lp lq hz hz'
        | false =>
          rw [if_neg (by simp)]
          have q0 : 0 < q.length := List.length_pos_iff.2 (ne_nil_of hz')
          unfold tmP
          rcases sp with rfl | ⟨j, hj1, hj2⟩
          · rw [zeroL_nil] at hz; cases hz
          · cases j with
            | zero =>
              have h1 : p.length = 1 := hj2
              rw [if_pos h1]
              obtain ⟨x, rfl⟩ := one_of (k := k + 1) (.inr ⟨0, by omega, hj2⟩) hz (by omega)
              obtain ⟨y, rfl⟩ := one_of sq hz' (by omega)
              have : sw = false := by
                rcases hsl with h | h
                · simp at h
                · exact h
              subst this
              exact tm_one hG lp lq hz hz'
            | succ j =>
              have hn : p.length / 2 = 2 ^ j := by rw [hj2, half_pow]
              have e2 : 2 ^ (j + 1) = 2 ^ j + 2 ^ j := by rw [Nat.pow_succ]; omega
              have pj := pow_pos' j
              rw [if_neg (by omega), hn, log2_pow]
              have sx : Sh k (p.take (2 ^ j)) := .inr ⟨j, by omega, by rw [List.length_take]; omega⟩
              have sy : Sh k (p.drop (2 ^ j)) := .inr ⟨j, by omega, by rw [List.length_drop]; omega⟩
              by_cases hb2 : q.length ≤ 2 ^ j
              · rw [if_pos hb2]
                have sq' : Sh k q := by
                  rcases sq with rfl | ⟨i, hi1, hi2⟩
                  · exact .inl rfl
                  · refine .inr ⟨i, ?_, hi2⟩
                    rw [hi2] at hb2
                    have := (Nat.pow_le_pow_iff_right (a := 2) (by omega)).1 hb2
                    omega
                exact tm_low hG sw hsw hj2 (by omega) hb2 lp lq hz hz'
                  (times_spec hG hT k _ _ m n (by omega) (by omega) hS' sx sq' (hp.take _) hq (by omega))
                  (times_spec hG hT k _ _ m n (by omega) (by omega) hS' sy sq' (hp.drop _) hq (by omega))
              · rw [if_neg hb2]
                have hql : q.length = 2 ^ (j + 1) := by
                  rcases sq with rfl | ⟨i, hi1, hi2⟩
                  · simp at hb2
                  · rw [hi2] at hle hb2 ⊢
                    rw [hj2] at hle
                    have g1 := (Nat.pow_le_pow_iff_right (a := 2) (by omega)).1 hle
                    have g2 : j < i := (Nat.pow_lt_pow_iff_right (a := 2) (by omega)).1 (by omega)
                    rw [show i = j + 1 by omega]
                have : sw = false := by
                  rcases hsl with h | h
                  · omega
                  · exact h
                subst this
                have su : Sh k (q.take (2 ^ j)) := .inr ⟨j, by omega, by rw [List.length_take]; omega⟩
                have sv : Sh k (q.drop (2 ^ j)) := .inr ⟨j, by omega, by rw [List.length_drop]; omega⟩
                have sd : Sh k (t.getD j []) := .inr ⟨j, by omega, hS j (by omega)⟩
                have syv := (tmsL_sh k _ _ hS' sy sv).1
                have byv := (hp.drop (2 ^ j)).times hT (hq.drop (2 ^ j)) k
                have bxu := (hp.take (2 ^ j)).times hT (hq.take (2 ^ j)) k
                have bxv := (hp.take (2 ^ j)).times hT (hq.drop (2 ^ j)) k
                have byu := (hp.drop (2 ^ j)).times hT (hq.take (2 ^ j)) k
                have byd := byv.times hT (hT.root j) k
                have lxu := (tmsL_sh k _ _ hS' sx su).2
                have lyd := (tmsL_sh k _ _ hS' syv sd).2
                have lyv := (tmsL_sh k _ _ hS' sy sv).2
                have lxv := (tmsL_sh k _ _ hS' sx sv).2
                have lyu := (tmsL_sh k _ _ hS' sy su).2
                have ld := hS j (by omega)
                simp only [List.length_take, List.length_drop] at lxu lyv lxv lyu lyd
                exact tm_high hG hj2 (by omega) hql (by omega) lp lq hz hz'
                  (times_spec hG hT k _ _ m n (by omega) (by omega) hS' sx su (hp.take _) (hq.take _) (by omega))
                  (times_spec hG hT k _ _ m n (by omega) (by omega) hS' sy sv (hp.drop _) (hq.drop _) (by omega))
                  (times_spec hG hT k _ _ _ δ (by omega) (by omega) hS' syv sd byv (hT.root j) (by omega))
                  (plus_specT hG (bxu.fit (by omega)) (byd.fit (by omega)) KB_pos KB_pos (Nat.le_refl _) (Nat.le_refl _) (by omega))
                  (times_spec hG hT k _ _ m n (by omega) (by omega) hS' sx sv (hp.take _) (hq.drop _) (by omega))
                  (times_spec hG hT k _ _ m n (by omega) (by omega) hS' sy su (hp.drop _) (hq.take _) (by omega))
                  (plus_specT hG (bxv.fit (by omega)) (byu.fit (by omega)) KB_pos KB_pos (Nat.le_refl _) (Nat.le_refl _) (by omega))
    by_cases hlt : a.length < b.length
    · rw [if_pos hlt, if_pos hlt, Bool.or_comm]
      exact key true b a n m (lt_len hlt) (by omega) (.inl hlt) sb sa hb ha lb la n2 n1 (by omega)
    · rw [if_neg hlt, if_neg hlt]
      exact key false a b m n (lt_false (show b.length ≤ a.length by omega)) (by omega) (.inr rfl) sa sb ha hb la lb n1 n2 (by omega)
end Tw
end Lw
