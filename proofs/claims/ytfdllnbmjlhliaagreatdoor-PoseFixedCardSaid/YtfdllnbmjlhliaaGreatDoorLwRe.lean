/- The contracts of the statements' helpers: equal words, equal fractions, numbers of errors; grids. No condition. -/
import Derived.Test.YtfdllnbmjlhliaaGreatDoorLwRd
namespace Lw
open Go Go.RowKit Go.Proofs

variable {G : World → Prop}

/-! ### Words -/
def wdsInv (l m : List Nat) (i : Nat) : St := lay 26 [(0, rowW l), (1, rowW m), (5, nat i)] []
theorem wds_same (hG : Steady G) {l m : List Nat} {i : Nat} (hi : i < l.length) (hm : i < m.length) (hb : l.length < 2 ^ 60) (he : l.getD i 0 = m.getD i 0) :
    Goes Tryz.prog G 0 (loopOf Tryz.f58 0) (wdsInv l m i) .normal (wdsInv l m (i + 1)) :=
  Goes.of_run hG (ro := []) (m := 30) (lay_len ..)
    [.eq 14 (eqB (lt_true hi)), .prop (at_need hi), .prop (load_need hi), .eq 20 (headD_need hi), .prop (at_need hm), .prop (load_need hm), .eq 24 (headD_need hm),
     .eq 25 (eqB (x := (Int.ofNat (l.getD i 0) != Int.ofNat (m.getD i 0))) (y := false) (by rw [he]; simp)), .eq 16 (eqS (nat_succ (i := i) (by omega)))] (by kernel_rfl)
theorem wds_other (hG : Steady G) {l m : List Nat} {i : Nat} (hi : i < l.length) (hm : i < m.length) (he : l.getD i 0 ≠ m.getD i 0) :
    Goes Tryz.prog G 0 (loopOf Tryz.f58 0) (wdsInv l m i) .ret (lay 26 [(4, bool false)] []) :=
  Goes.of_run hG (ro := []) (m := 30) (lay_len ..)
    [.eq 14 (eqB (lt_true hi)), .prop (at_need hi), .prop (load_need hi), .eq 20 (headD_need hi), .prop (at_need hm), .prop (load_need hm), .eq 24 (headD_need hm),
     .eq 25 (eqB (x := (Int.ofNat (l.getD i 0) != Int.ofNat (m.getD i 0))) (y := true) (by rw [bne_iff_ne]; intro hh; exact he (Int.ofNat.inj hh)))] (by kernel_rfl)
theorem wds_last (hG : Steady G) {l m : List Nat} : Goes Tryz.prog G 0 (loopOf Tryz.f58 0) (wdsInv l m l.length) (.exit 0) (wdsInv l m l.length) :=
  Goes.of_run hG (ro := []) (m := 30) (lay_len ..) [.eq 14 (eqB (lt_false (Nat.le_refl l.length)))] (by kernel_rfl)
theorem list_eq_of {l m : List Nat} (hl : l.length = m.length) (h : ∀ i, i < l.length → l.getD i 0 = m.getD i 0) : l = m := by
  refine List.ext_getElem hl fun i h1 h2 => ?_
  have := h i h1
  rw [List.getD_eq_getElem?_getD, List.getElem?_eq_getElem h1, List.getD_eq_getElem?_getD, List.getElem?_eq_getElem h2] at this
  exact this
theorem Words_spec (hG : Steady G) {l m : List Nat} (h1 : l.length ≤ 2 ^ 36) : Spec Tryz.prog G 58 [rowW l, rowW m] (bool (decide (l = m))) := by
  have h36 : (2:Nat) ^ 36 = 68719476736 := by decide
  have h60 : (2:Nat) ^ 60 = 1152921504606846976 := by decide
  by_cases hl : l.length = m.length
  · have e0 : (Int.ofNat l.length != Int.ofNat m.length) = false := by rw [hl]; simp
    by_cases he : l = m
    · rw [decide_eq_true he]
      subst he
      have hloop := Abs.count (P := Tryz.prog) (Good := G) (gb := 0) (body := loopOf Tryz.f58 0) (e := .exit 0) (s' := wdsInv l l l.length) (wdsInv l l) l.length (fun i => lay_len _ _ _) (by simp) (fun i hi => wds_same hG hi hi (by omega) rfl) (wds_last hG)
      exact Spec.of_run hG Tryz.func58 (ro := []) (m := 30) [.eq 10 (eqB e0), .code hloop] (by kernel_rfl)
    · rw [decide_eq_false he]
      have : ∃ i, i < l.length ∧ l.getD i 0 ≠ m.getD i 0 := Classical.byContradiction fun hc => he (list_eq_of hl fun i hi => Classical.byContradiction fun hn => hc ⟨i, hi, hn⟩)
      obtain ⟨j, hj, hjn⟩ := this
      obtain ⟨T, hT1, hT2⟩ := first_fail (P := fun i => l.getD i 0 = m.getD i 0) j hjn
      have hTj : T ≤ j := by
        rcases Nat.lt_or_ge j T with q | q
        · exact absurd (hT1 j q) hjn
        · exact q
      have hloop := Abs.count (P := Tryz.prog) (Good := G) (gb := 0) (body := loopOf Tryz.f58 0) (e := .ret) (s' := lay 26 [(4, bool false)] []) (wdsInv l m) T (fun i => lay_len _ _ _) (by simp) (fun i hi => wds_same hG (by omega) (by omega) (by omega) (hT1 i hi)) (wds_other hG (by omega) (by omega) hT2)
      exact Spec.of_run hG Tryz.func58 (ro := []) (m := 30) [.eq 10 (eqB e0), .code hloop] (by kernel_rfl)
  · have he : ¬ l = m := fun h => hl (by rw [h])
    rw [decide_eq_false he]
    have e0 : (Int.ofNat l.length != Int.ofNat m.length) = true := by rw [bne_iff_ne]; intro hh; exact hl (Int.ofNat.inj hh)
    exact Spec.of_run hG Tryz.func58 (ro := []) (m := 30) [.eq 10 (eqB e0)] (by kernel_rfl)

/-! ### Rat -/
theorem raw_eq (r q : Raw) : r = q ↔ r.s = q.s ∧ r.n = q.n ∧ r.d = q.d := by
  obtain ⟨a, b, c⟩ := r
  obtain ⟨d, e, f⟩ := q
  simp
instance (r q : Raw) : Decidable (r = q) := decidable_of_iff _ (raw_eq r q).symm
theorem Rat_spec (hG : Steady G) {r q : Raw} (h1 : r.n.length ≤ 2 ^ 36) (h2 : r.d.length ≤ 2 ^ 36) : Spec Tryz.prog G 20 [r.dat, q.dat] (bool (decide (r = q))) := by
  have w1 := Words_spec (G := G) hG (m := q.n) h1
  have w2 := Words_spec (G := G) hG (m := q.d) h2
  obtain ⟨a, b, c⟩ := r
  obtain ⟨d, e, f⟩ := q
  simp only at h1 h2 w1 w2
  by_cases hs : a = d
  · subst hs
    by_cases hb : b = e
    · subst hb
      rw [decide_eq_true rfl] at w1
      have ev : decide (Raw.mk a b c = Raw.mk a b f) = decide (c = f) := decide_eq_decide.2 (by simp)
      rw [ev]
      cases a <;> exact Spec.of_run hG Tryz.func20 (ro := [2, 3]) (m := 30) [.call w1, .call w2] (by kernel_rfl)
    · rw [decide_eq_false hb] at w1
      have ev : decide (Raw.mk a b c = Raw.mk a e f) = false := decide_eq_false (by simp [hb])
      rw [ev]
      cases a <;> exact Spec.of_run hG Tryz.func20 (ro := [2, 3]) (m := 30) [.call w1] (by kernel_rfl)
  · have ev : decide (Raw.mk a b c = Raw.mk d e f) = false := decide_eq_false (by simp [hs])
    rw [ev]
    have hd : d = !a := by cases a <;> cases d <;> first | rfl | exact absurd rfl hs
    subst hd
    cases a <;> exact Spec.of_run hG Tryz.func20 (ro := [2, 3]) (m := 30) [] (by kernel_rfl)
theorem rawOf_inj {a b : Rat} : rawOf a = rawOf b ↔ a = b := ⟨fun h => by rw [← rawOf_q a, h, rawOf_q], fun h => by rw [h]⟩
theorem RatF_spec (hG : Steady G) {k : Nat} {a b : Rat} (ha : SzQ k a) (hk : k ≤ KB) : Spec Tryz.prog G 20 [F a, F b] (bool (decide (a = b))) := by
  have h36 : (2:Nat) ^ 36 = 68719476736 := by decide
  obtain ⟨-, -, h1, h2, -⟩ := ha.ok
  rw [KB_eq] at hk
  have h := Rat_spec (G := G) hG (r := rawOf a) (q := rawOf b) (by omega) (by omega)
  rw [decide_eq_decide.2 (rawOf_inj (a := a) (b := b))] at h
  exact h
/-! ### Errors -/
theorem Num_nil (hG : Steady G) : Spec Tryz.prog G 57 [.lit .nilIface] (int 0) :=
  Spec.of_run hG Tryz.func57 (ro := []) (m := 30) [] (by kernel_rfl)
theorem Num_err (hG : Steady G) (k : Int) : Spec Tryz.prog G 57 [errno k] (int k) :=
  Spec.of_run hG Tryz.func57 (ro := []) (m := 30) [] (by kernel_rfl)
theorem Is_nil (hG : Steady G) (k : Int) : Spec Tryz.prog G 19 [.lit .nilIface, int k] (bool (0 == k)) :=
  Spec.of_run hG Tryz.func19 (ro := []) (m := 30) [.call (Num_nil hG)] (by kernel_rfl)
theorem Is_err (hG : Steady G) (j k : Int) : Spec Tryz.prog G 19 [errno j, int k] (bool (j == k)) :=
  Spec.of_run hG Tryz.func19 (ro := []) (m := 30) [.call (Num_err hG j)] (by kernel_rfl)

/-! ### Grids -/
theorem len_two {b : Nat} (hb : b ≤ 256) : (words (2 ^ b)).length ≤ 9 := by rw [words_pow_len]; omega
theorem szI_two {b : Nat} (hb : b ≤ 256) : SzI ((2 ^ b : Nat) : Int) := by
  have := len_two hb
  unfold SzI Sz
  have h30 : (2:Nat) ^ 30 = 1073741824 := by decide
  rw [Int.natAbs_natCast]; omega
theorem two_ne (b : Nat) : ((2 ^ b : Nat) : Int) ≠ 0 := by have := Nat.two_pow_pos b; omega
/-- The greatest multiple of 2^-b that is at most a. -/
def gridQ (a : Rat) (b : Nat) : Rat := Rat.divInt (a * (((2 ^ b : Nat) : Int) : Rat)).floor ((2 ^ b : Nat) : Int)
theorem sz_int {k : Nat} {n : Int} (h0 : 0 < k) (h : (words n.natAbs).length ≤ k) : SzQ k (n : Rat) := by
  unfold SzQ
  rw [Rat.num_intCast, Rat.den_intCast]
  exact ⟨h, by rw [len_one]; omega, h0⟩
theorem floor_le_num (a : Rat) : a.floor.natAbs ≤ a.num.natAbs := by
  rw [Rat.floor_def]; exact Int.natAbs_ediv_le_natAbs _ _
theorem sz_floor {k : Nat} {a : Rat} (h : SzQ k a) : (words a.floor.natAbs).length ≤ k := Nat.le_trans (len_mono (floor_le_num a)) h.1
theorem SzQ.grid {k b : Nat} {a : Rat} (h : SzQ k a) (hb : b ≤ 256) : SzQ (k + 9) (gridQ a b) := by
  have h2 := sz_int (k := 9) (n := ((2 ^ b : Nat) : Int)) (by omega) (by rw [Int.natAbs_natCast]; exact len_two hb)
  have h3 := sz_floor (h.mul h2)
  unfold gridQ
  exact sz_divInt (by omega) h3 (by rw [Int.natAbs_natCast]; have := len_two hb; omega)
end Lw
