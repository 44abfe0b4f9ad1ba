/- Enclosures of numbers of towers, run. Condition: the numbers are of bounded size. -/
import Derived.Test.YtmcpfihkambgnaaGreatLwNj
namespace Lw
namespace Fld
open Rng OFd

/-- How many bits a number of level k may have before the point, beyond those of its coefficients. -/
def pb (δ : Nat) : Nat → Nat
  | 0 => 0
  | k + 1 => 2 * pb δ k + δ + 2
theorem pB_pb {δ : Nat} : ∀ k, pB ((2 ^ δ : Nat) : Rat) k ≤ ((2 ^ pb δ k : Nat) : Rat) ∧ 0 ≤ pB ((2 ^ δ : Nat) : Rat) k
  | 0 => by simp only [pB, pb, Nat.pow_zero]; exact ⟨by decide, by decide⟩
  | k + 1 => by
    obtain ⟨h, h0⟩ := pB_pb (δ := δ) k
    simp only [pB, pb]
    generalize pB ((2 ^ δ : Nat) : Rat) k = p at *
    have hd : (0 : Rat) ≤ ((2 ^ δ : Nat) : Rat) := by exact_mod_cast Nat.zero_le _
    have hP : (0 : Rat) ≤ ((2 ^ pb δ k : Nat) : Rat) := by exact_mod_cast Nat.zero_le _
    have e : ((2 ^ (2 * pb δ k + δ + 2) : Nat) : Rat) = ((2 ^ pb δ k : Nat) : Rat) * (((2 ^ δ : Nat) : Rat) * ((2 ^ pb δ k : Nat) : Rat) * 4) := by
      rw [show 2 * pb δ k + δ + 2 = pb δ k + (δ + pb δ k + 2) by omega, Nat.pow_add 2 (pb δ k), Nat.pow_add 2 (δ + pb δ k), Nat.pow_add 2 δ]
      push_cast; grind
    rw [e]
    have h1 : (1 : Rat) ≤ ((2 ^ pb δ k : Nat) : Rat) := by exact_mod_cast Nat.one_le_two_pow
    have h2 : (1 : Rat) ≤ ((2 ^ δ : Nat) : Rat) := by exact_mod_cast Nat.one_le_two_pow
    generalize ((2 ^ pb δ k : Nat) : Rat) = P at *
    generalize ((2 ^ δ : Nat) : Rat) = d at *
    have m1 : d * p ≤ d * P := Rat.mul_le_mul_of_nonneg_left h hd
    have m0 : 1 ≤ d * P := by
      have := Rat.mul_le_mul_of_nonneg_left h1 hd
      grind
    have m2 : d * p + 1 + 1 ≤ d * P * 4 := by grind
    have n2 : 0 ≤ d * p := Rat.mul_nonneg hd h0
    refine ⟨?_, Rat.mul_nonneg h0 (by grind)⟩
    have a1 : p * (d * p + 1 + 1) ≤ P * (d * p + 1 + 1) := Rat.mul_le_mul_of_nonneg_right h (by grind)
    have a2 : P * (d * p + 1 + 1) ≤ P * (d * P * 4) := Rat.mul_le_mul_of_nonneg_left m2 hP
    grind
theorem Ms.abs {D B : Nat} {l : List Rat} (h : Ms D B l) (h0 : 0 < D) (i : Nat) : -(B : Rat) ≤ l.getD i 0 ∧ l.getD i 0 ≤ (B : Rat) := by
  obtain ⟨z, h1, h2⟩ := h i
  generalize l.getD i 0 = q at *
  have d1 : (1 : Rat) ≤ (D : Rat) := by exact_mod_cast h0
  have z1 : (z : Rat) ≤ (B : Rat) := by
    have : z ≤ (B : Int) := by omega
    exact_mod_cast this
  have z2 : -(B : Rat) ≤ (z : Rat) := by
    have : -(B : Int) ≤ z := by omega
    have := Rat.intCast_le_intCast.2 this
    rw [Rat.intCast_neg] at this
    exact this
  have hB : (0 : Rat) ≤ (B : Rat) := by exact_mod_cast Nat.zero_le _
  rw [← h1] at z1 z2
  generalize (D : Rat) = d at *
  generalize (B : Rat) = b at *
  constructor
  · apply Rat.not_lt.1
    intro g
    have : q * d ≤ q * 1 := by
      have : 0 ≤ (-q) * (d - 1) := Rat.mul_nonneg (by grind) (by grind)
      grind
    grind
  · apply Rat.not_lt.1
    intro g
    have : q * 1 ≤ q * d := Rat.mul_le_mul_of_nonneg_left d1 (by grind)
    grind
theorem Bt.abs {n : Nat} {l : List Rat} (h : Bt n l) (i : Nat) : -((2 ^ n : Nat) : Rat) ≤ l.getD i 0 ∧ l.getD i 0 ≤ ((2 ^ n : Nat) : Rat) := by
  obtain ⟨D, B, h1, h2, h3, h4⟩ := h
  have := h4.abs h1 i
  have hb : (B : Rat) ≤ ((2 ^ n : Nat) : Rat) := by exact_mod_cast h3
  grind
/-- Far out the sign is known. -/
theorem at_beyond {t : Tow} {δ n : Nat} {a : List Rat} (ok : TowOk t) (hT : BtT δ t) (hs : Sh t.length a) (ha : Bt n a) {e : Nat} (he : n + pb δ t.length + 1 ≤ e) :
    atL t t.length a ((2 ^ e : Nat) : Int) < 0 ∧ 0 ≤ atL t t.length a (-((2 ^ e : Nat) : Int)) := by
  obtain ⟨K, _, ι, s, hM⟩ := ok.model t.length (Nat.le_refl _)
  refine at_far ι s ok.sh hM hs (fun j _ i => (hT.root j).abs i) (fun i => ha.abs i) ?_
  obtain ⟨p1, p2⟩ := pB_pb (δ := δ) t.length
  have hn : (0 : Rat) ≤ ((2 ^ n : Nat) : Rat) := by exact_mod_cast Nat.zero_le _
  have m1 := Rat.mul_le_mul_of_nonneg_left p1 hn
  have e1 : ((2 ^ n : Nat) : Rat) * ((2 ^ pb δ t.length : Nat) : Rat) = ((2 ^ (n + pb δ t.length) : Nat) : Rat) := by rw [Nat.pow_add]; push_cast; rfl
  have e2 : 2 ^ (n + pb δ t.length) < 2 ^ e := Nat.pow_lt_pow_right (by omega) (by omega)
  have e3 : ((2 ^ (n + pb δ t.length) : Nat) : Rat) < ((2 ^ e : Nat) : Rat) := by exact_mod_cast e2
  rw [e1] at m1
  have e4 : (((2 ^ e : Nat) : Int) : Rat) = ((2 ^ e : Nat) : Rat) := rfl
  rw [e4]
  grind
/-- Halving: the greater end of the halves. -/
def bis (t : Tow) (a : List Rat) : Nat → Int → Int → Int
  | 0, lo, _ => lo
  | f + 1, lo, hi => if hi - lo ≤ 1 then lo else if 0 ≤ atL t t.length a ((lo + hi) / 2) then bis t a f ((lo + hi) / 2) hi else bis t a f lo ((lo + hi) / 2)
end Fld
namespace Tw
open Go Go.RowKit Go.Proofs Fld
variable {G : World → Prop}

def cW (i : Int) : List D := [bool (decide (i < 0)), rowW (words i.natAbs)]
theorem W_cW (i : Int) : W i = .agg (cW i) := rfl
theorem ISub_specW (hG : Steady G) {i j : Int} (hi : SzI i) (hj : SzI j) : Spec Tryz.prog G 132 [W i, W j] (W (i - j)) := by
  have n := Lw.Neg_spec (G := G) hG hj
  have a := Lw.Add_spec (G := G) hG (i := i) (j := -j) hi (by unfold SzI; rw [Int.natAbs_neg]; exact hj)
  rw [← Int.sub_eq_add_neg] at a
  exact Spec.of_run hG Tryz.func132 (ro := []) (m := 60) [.call n, .call a] (by kernel_rfl)
theorem divInt_one (i : Int) : Rat.divInt i 1 = (i : Rat) := by
  rw [Rat.divInt_eq_div]
  show (i : Rat) / 1 = i
  grind
theorem szI_1 : SzI 1 := by unfold SzI Sz; decide
theorem whole_specT (hG : Steady G) {i : Int} (hi : SzI i) : Spec Tryz.prog G 60 [W i] (NumD [(i : Rat)]) := by
  have f := From_spec (G := G) hG (n := i) (d := 1) (by omega) hi szI_1
  rw [divInt_one] at f
  exact Spec.of_run hG Tryz.func60 (ro := [1]) (m := 60) [.call (Of_spec hG (i := 1) (by omega) (by omega)), .call f] (by kernel_rfl)
theorem szI_pow {e : Nat} (h : e ≤ NB) {i : Int} (hi : i.natAbs ≤ 2 ^ e) : SzI i := by
  unfold SzI Sz
  have h30 : (2:Nat) ^ 30 = 1073741824 := by decide
  rw [NB_eq] at h
  generalize (2:Nat) ^ 30 = N at *
  rw [len_le_iff, BP_two]
  exact Nat.lt_of_le_of_lt hi (Nat.pow_lt_pow_right (by omega) (by omega))
theorem NumB.whole {t : Tow} {e : Nat} {i : Int} (hi : i.natAbs ≤ 2 ^ e) : NumB e t [(i : Rat)] := ⟨Sh.single _ _, Bt.of_num i hi⟩
/-- The sign of a - i, run. -/
structure AtRun (G : World → Prop) (t : Tow) (a : List Rat) (i : Int) : Prop where
  wh : Spec Tryz.prog G 60 [W i] (NumD [(i : Rat)])
  mi : Spec Tryz.prog G 64 [NumD [(i : Rat)]] (NumD (minusL [(i : Rat)]))
  pl : Spec Tryz.prog G 119 [NumD a, NumD (minusL [(i : Rat)])] (NumD (plusL a (minusL [(i : Rat)])))
  sg : Spec Tryz.prog G 65 [TowD t, NumD (plusL a (minusL [(i : Rat)]))] (int (atL t t.length a i))
theorem at_run (hG : Steady G) {t : Tow} {δ n e : Nat} {a : List Rat} (hT : TowB δ t) (ha : NumB n t a) (h : sb δ t.length (n + e + 1) ≤ NB) {i : Int} (hi : i.natAbs ≤ 2 ^ e) : AtRun G t a i := by
  have s1 := sb_ge δ t.length (n + e + 1)
  have hw : NumB e t [(i : Rat)] := NumB.whole hi
  exact ⟨whole_specT hG (szI_pow (by omega) hi), minus_specN hG hT.ok hw (by omega), plus_specN hG hT.ok ha hw.minus (by omega) (by omega), sign_specN hG hT (ha.plus hw.minus) h⟩
def flInv (t : Tow) (a : List Rat) (lo hi : Int) : St := lay 60 [(1, NumD a), (2, .rptr [.row t.length false (t.map NumD)]), (4, .ptr 0 0), (5, .ptr 1 0), (6, .ptr 2 0)] [(0, zeroW), (1, cW lo), (2, cW hi)]
theorem ge_dec {x : Int} (h : 0 ≤ x) : decide (x ≥ 0) = true := decide_eq_true h
theorem nge_dec {x : Int} (h : x < 0) : decide (x ≥ 0) = false := decide_eq_false (by omega)
theorem lt_dec {x : Int} (h : x < 0) : decide (x < 0) = true := decide_eq_true h
theorem nlt_dec {x : Int} (h : 0 ≤ x) : decide (x < 0) = false := decide_eq_false (by omega)
theorem fl_up (hG : Steady G) {t : Tow} {a : List Rat} {hi : Int} (r : AtRun G t a hi) (sz : SzI hi) (h : 0 ≤ atL t t.length a hi) :
    Goes Tryz.prog G 0 (loopOf Tryz.f62 0) (flInv t a (-1) hi) .normal (flInv t a (-1) (hi + hi)) := by
  have ad := Lw.Add_spec (G := G) hG sz sz
  exact Goes.of_run hG (ro := []) (m := 60) (lay_len ..) [.call r.wh, .call r.mi, .call r.pl, .call r.sg, .eq 19 (eqB (ge_dec h)), .call ad] (by kernel_rfl)
theorem fl_up_end (hG : Steady G) {t : Tow} {a : List Rat} {hi : Int} (r : AtRun G t a hi) (h : atL t t.length a hi < 0) :
    Goes Tryz.prog G 0 (loopOf Tryz.f62 0) (flInv t a (-1) hi) (.exit 0) (flInv t a (-1) hi) :=
  Goes.of_run hG (ro := []) (m := 60) (lay_len ..) [.call r.wh, .call r.mi, .call r.pl, .call r.sg, .eq 19 (eqB (nge_dec h))] (by kernel_rfl)
theorem fl_dn (hG : Steady G) {t : Tow} {a : List Rat} {lo hi : Int} (r : AtRun G t a lo) (sz : SzI lo) (h : atL t t.length a lo < 0) :
    Goes Tryz.prog G 0 (loopOf Tryz.f62 1) (flInv t a lo hi) .normal (flInv t a (lo + lo) hi) := by
  have ad := Lw.Add_spec (G := G) hG sz sz
  exact Goes.of_run hG (ro := []) (m := 60) (lay_len ..) [.call r.wh, .call r.mi, .call r.pl, .call r.sg, .eq 30 (eqB (lt_dec h)), .call ad] (by kernel_rfl)
theorem fl_dn_end (hG : Steady G) {t : Tow} {a : List Rat} {lo hi : Int} (r : AtRun G t a lo) (h : 0 ≤ atL t t.length a lo) :
    Goes Tryz.prog G 0 (loopOf Tryz.f62 1) (flInv t a lo hi) (.exit 2) (flInv t a lo hi) :=
  Goes.of_run hG (ro := []) (m := 60) (lay_len ..) [.call r.wh, .call r.mi, .call r.pl, .call r.sg, .eq 30 (eqB (nlt_dec h))] (by kernel_rfl)
theorem cmp_gt {x : Int} (h : 1 < x) : decide (cmpZ x 1 > 0) = true := by
  unfold cmpZ; rw [if_neg (by omega), if_pos h]; rfl
theorem cmp_ngt {x : Int} (h : x ≤ 1) : decide (cmpZ x 1 > 0) = false := by
  unfold cmpZ
  split
  · rfl
  · rw [if_neg (by omega)]; rfl
theorem fl_hi (hG : Steady G) {t : Tow} {a : List Rat} {lo hi : Int} (r : AtRun G t a ((lo + hi) / 2)) (sl : SzI lo) (sh : SzI hi) (sd : SzI (hi - lo)) (ss : SzI (lo + hi)) (hd : 1 < hi - lo) (h : 0 ≤ atL t t.length a ((lo + hi) / 2)) :
    Goes Tryz.prog G 0 (loopOf Tryz.f62 2) (flInv t a lo hi) .normal (flInv t a ((lo + hi) / 2) hi) :=
  Goes.of_run hG (ro := []) (m := 60) (lay_len ..)
    [.call (ISub_specW hG sh sl), .call (Of_spec hG (i := 1) (by omega) (by omega)), .call (Lw.Cmp_spec hG sd szI_1), .eq 39 (eqB (cmp_gt hd)), .call (Lw.Add_spec hG sl sh), .call (Of_spec hG (i := 2) (by omega) (by omega)),
     .call (Lw.Div_spec hG ss (j := 2) (by unfold SzI Sz; decide) (by omega)), .call r.wh, .call r.mi, .call r.pl, .call r.sg, .eq 56 (eqB (ge_dec h))] (by kernel_rfl)
theorem fl_lo (hG : Steady G) {t : Tow} {a : List Rat} {lo hi : Int} (r : AtRun G t a ((lo + hi) / 2)) (sl : SzI lo) (sh : SzI hi) (sd : SzI (hi - lo)) (ss : SzI (lo + hi)) (hd : 1 < hi - lo) (h : atL t t.length a ((lo + hi) / 2) < 0) :
    Goes Tryz.prog G 0 (loopOf Tryz.f62 2) (flInv t a lo hi) .normal (flInv t a lo ((lo + hi) / 2)) :=
  Goes.of_run hG (ro := []) (m := 60) (lay_len ..)
    [.call (ISub_specW hG sh sl), .call (Of_spec hG (i := 1) (by omega) (by omega)), .call (Lw.Cmp_spec hG sd szI_1), .eq 39 (eqB (cmp_gt hd)), .call (Lw.Add_spec hG sl sh), .call (Of_spec hG (i := 2) (by omega) (by omega)),
     .call (Lw.Div_spec hG ss (j := 2) (by unfold SzI Sz; decide) (by omega)), .call r.wh, .call r.mi, .call r.pl, .call r.sg, .eq 56 (eqB (nge_dec h))] (by kernel_rfl)
theorem fl_end (hG : Steady G) {t : Tow} {a : List Rat} {lo hi : Int} (sl : SzI lo) (sh : SzI hi) (sd : SzI (hi - lo)) (hd : hi - lo ≤ 1) :
    Goes Tryz.prog G 0 (loopOf Tryz.f62 2) (flInv t a lo hi) (.exit 4) (flInv t a lo hi) :=
  Goes.of_run hG (ro := []) (m := 60) (lay_len ..)
    [.call (ISub_specW hG sh sl), .call (Of_spec hG (i := 1) (by omega) (by omega)), .call (Lw.Cmp_spec hG sd szI_1), .eq 39 (eqB (cmp_ngt hd))] (by kernel_rfl)
theorem natAbs_pow (e : Nat) : (((2 ^ e : Nat) : Int)).natAbs = 2 ^ e := rfl
/-- The first of the powers at which something holds. -/
theorem first_pow {p : Nat → Prop} {e : Nat} (h : p e) : ∃ i, i ≤ e ∧ p i ∧ ∀ j, j < i → ¬ p j := by
  induction e using Nat.strongRecOn with
  | _ e ih =>
    by_cases hx : ∃ j, j < e ∧ p j
    · obtain ⟨j, h1, h2⟩ := hx
      obtain ⟨i, h3, h4, h5⟩ := ih j h1 h2
      exact ⟨i, by omega, h4, h5⟩
    · exact ⟨e, Nat.le_refl _, h, fun j hj hp => hx ⟨j, hj, hp⟩⟩
theorem bis_ok (t : Tow) (a : List Rat) : ∀ (f : Nat) (lo hi : Int), lo < hi → (hi - lo).toNat ≤ f + 1 → 0 ≤ atL t t.length a lo → atL t t.length a hi < 0 →
    0 ≤ atL t t.length a (bis t a f lo hi) ∧ atL t t.length a (bis t a f lo hi + 1) < 0 ∧ lo ≤ bis t a f lo hi ∧ bis t a f lo hi < hi
  | 0, lo, hi, h, hf, h1, h2 => by
    simp only [bis]
    have : hi = lo + 1 := by omega
    subst this
    exact ⟨h1, h2, Int.le_refl _, by omega⟩
  | f + 1, lo, hi, h, hf, h1, h2 => by
    simp only [bis]
    split
    · rename_i hd
      have : hi = lo + 1 := by omega
      subst this
      exact ⟨h1, h2, Int.le_refl _, by omega⟩
    · rename_i hd
      split
      · rename_i hm
        obtain ⟨q1, q2, q3, q4⟩ := bis_ok t a f ((lo + hi) / 2) hi (by omega) (by omega) hm h2
        exact ⟨q1, q2, by omega, q4⟩
      · rename_i hm
        obtain ⟨q1, q2, q3, q4⟩ := bis_ok t a f lo ((lo + hi) / 2) (by omega) (by omega) h1 (by omega)
        exact ⟨q1, q2, q3, by omega⟩
theorem bis_loop (hG : Steady G) {t : Tow} {a : List Rat} {e : Nat} (he : e + 2 ≤ NB) (r : ∀ i : Int, i.natAbs ≤ 2 ^ e → AtRun G t a i) (f : Nat) (lo hi : Int) (h : lo < hi) (hf : (hi - lo).toNat ≤ f + 1) (hl : lo.natAbs ≤ 2 ^ e) (hh : hi.natAbs ≤ 2 ^ e) :
    Abs Tryz.prog G 60 0 (.loop (loopOf Tryz.f62 2)) (flInv t a lo hi) (.exit 4) (flInv t a (bis t a f lo hi) (bis t a f lo hi + 1)) := by
  have e1 : 2 ^ (e + 2) = 2 ^ e * 4 := by rw [Nat.pow_add]
  refine Abs.rounds (P := Tryz.prog) (Good := G) (gb := 0) (fun x : Nat × Int × Int => x.2.1 < x.2.2 ∧ (x.2.2 - x.2.1).toNat ≤ x.1 + 1 ∧ x.2.1.natAbs ≤ 2 ^ e ∧ x.2.2.natAbs ≤ 2 ^ e ∧ bis t a x.1 x.2.1 x.2.2 = bis t a f lo hi)
    (fun x => flInv t a x.2.1 x.2.2) (fun x => x.1) (fun x => lay_len ..) (by intro h; cases h) (fun x hx => ?_) (f, lo, hi) ⟨h, hf, hl, hh, rfl⟩
  obtain ⟨f, lo, hi⟩ := x
  obtain ⟨h, hf, hl, hh, hm⟩ := hx
  simp only at h hf hl hh hm ⊢
  have sl := szI_pow (e := e) (by omega) hl
  have sh := szI_pow (e := e) (by omega) hh
  have sd : SzI (hi - lo) := szI_pow (e := e + 2) he (by omega)
  have ss : SzI (lo + hi) := szI_pow (e := e + 2) he (by omega)
  rw [← hm]
  cases f with
  | zero =>
    right
    have e2 : hi = lo + 1 := by omega
    simp only [bis]
    have := fl_end (G := G) hG (t := t) (a := a) sl sh sd (by omega)
    rw [e2] at this ⊢
    exact this
  | succ f =>
    simp only [bis]
    by_cases hd : hi - lo ≤ 1
    · right
      rw [if_pos hd]
      have e2 : hi = lo + 1 := by omega
      have := fl_end (G := G) hG (t := t) (a := a) sl sh sd (by omega)
      rw [e2] at this ⊢
      exact this
    · rw [if_neg hd]
      simp only [bis] at hm
      rw [if_neg hd] at hm
      have rm := r ((lo + hi) / 2) (by omega)
      left
      by_cases hq : 0 ≤ atL t t.length a ((lo + hi) / 2)
      · rw [if_pos hq] at hm
        exact ⟨(f, (lo + hi) / 2, hi), ⟨by simp only; omega, by simp only; omega, by simp only; omega, by simp only; omega, (if_pos hq).symm⟩, by simp, fl_hi hG rm sl sh sd ss (by omega) hq⟩
      · rw [if_neg hq] at hm
        exact ⟨(f, lo, (lo + hi) / 2), ⟨by simp only; omega, by simp only; omega, by simp only; omega, by simp only; omega, (if_neg hq).symm⟩, by simp, fl_lo hG rm sl sh sd ss (by omega) (by omega)⟩
theorem two_twice (i : Nat) : ((2 ^ i : Nat) : Int) + ((2 ^ i : Nat) : Int) = ((2 ^ (i + 1) : Nat) : Int) := by rw [Nat.pow_succ]; push_cast; omega
/-- The greatest integer that is at most the value, run. -/
theorem floor_spec (hG : Steady G) {t : Tow} {δ n e : Nat} {a : List Rat} (hT : TowB δ t) (ha : NumB n t a) (he : n + pb δ t.length + 1 ≤ e) (h : sb δ t.length (n + e + 1) ≤ NB) (he2 : e + 2 ≤ NB) :
    ∃ m : Int, 0 ≤ atL t t.length a m ∧ atL t t.length a (m + 1) < 0 ∧ m.natAbs ≤ 2 ^ e ∧ Spec Tryz.prog G 62 [TowD t, NumD a] (W m) := by
  have r : ∀ i : Int, i.natAbs ≤ 2 ^ e → AtRun G t a i := fun i hi => at_run hG hT ha h hi
  obtain ⟨f1, f2⟩ := at_beyond hT.ok hT.bt ha.sh ha.bt he
  obtain ⟨i, hi1, hi2, hi3⟩ := first_pow (p := fun i => atL t t.length a ((2 ^ i : Nat) : Int) < 0) f1
  obtain ⟨j, hj1, hj2, hj3⟩ := first_pow (p := fun i => 0 ≤ atL t t.length a (-((2 ^ i : Nat) : Int))) f2
  have pe : ∀ k, k ≤ e → 2 ^ k ≤ 2 ^ e := fun k hk => Nat.pow_le_pow_right (by omega) hk
  have l1 := Abs.count (P := Tryz.prog) (Good := G) (gb := 0) (body := loopOf Tryz.f62 0) (e := .exit 0) (s' := flInv t a (-1) ((2 ^ i : Nat) : Int)) (fun k => flInv t a (-1) ((2 ^ k : Nat) : Int)) i (fun k => lay_len ..) (by intro h; cases h)
    (fun k hk => by
      have q := fl_up (G := G) hG (hi := ((2 ^ k : Nat) : Int)) (r _ (by rw [natAbs_pow]; exact pe k (by omega))) (szI_pow (e := e) (by omega) (by rw [natAbs_pow]; exact pe k (by omega))) (Int.not_lt.1 (hi3 k hk))
      rwa [two_twice] at q)
    (fl_up_end hG (r _ (by rw [natAbs_pow]; exact pe i hi1)) hi2)
  have l2 := Abs.count (P := Tryz.prog) (Good := G) (gb := 0) (body := loopOf Tryz.f62 1) (e := .exit 2) (s' := flInv t a (-((2 ^ j : Nat) : Int)) ((2 ^ i : Nat) : Int)) (fun k => flInv t a (-((2 ^ k : Nat) : Int)) ((2 ^ i : Nat) : Int)) j (fun k => lay_len ..) (by intro h; cases h)
    (fun k hk => by
      have q := fl_dn (G := G) hG (hi := ((2 ^ i : Nat) : Int)) (lo := -((2 ^ k : Nat) : Int)) (r _ (by rw [Int.natAbs_neg, natAbs_pow]; exact pe k (by omega))) (szI_pow (e := e) (by omega) (by rw [Int.natAbs_neg, natAbs_pow]; exact pe k (by omega))) (by have := hj3 k hk; omega)
      rwa [← Int.neg_add, two_twice] at q)
    (fl_dn_end hG (r _ (by rw [Int.natAbs_neg, natAbs_pow]; exact pe j hj1)) hj2)
  have p1 : 0 < 2 ^ i := Nat.pow_pos (by omega)
  have p2 : 0 < 2 ^ j := Nat.pow_pos (by omega)
  have pi := pe i hi1
  have pj := pe j hj1
  have l3 := bis_loop (G := G) hG he2 r (2 ^ i + 2 ^ j) (-((2 ^ j : Nat) : Int)) ((2 ^ i : Nat) : Int) (by omega) (by omega) (by omega) (by omega)
  obtain ⟨q1, q2, q3, q4⟩ := bis_ok t a (2 ^ i + 2 ^ j) (-((2 ^ j : Nat) : Int)) ((2 ^ i : Nat) : Int) (by omega) (by omega) hj2 hi2
  generalize bis t a (2 ^ i + 2 ^ j) (-((2 ^ j : Nat) : Int)) ((2 ^ i : Nat) : Int) = m at *
  refine ⟨m, q1, q2, by omega, ?_⟩
  have z1 : (fun k : Nat => flInv t a (-1) ((2 ^ k : Nat) : Int)) 0 = flInv t a (-1) 1 := rfl
  have z2 : flInv t a (-((2 ^ 0 : Nat) : Int)) ((2 ^ i : Nat) : Int) = flInv t a (-1) ((2 ^ i : Nat) : Int) := rfl
  rw [z2] at l2
  rw [show flInv t a (-1) ((2 ^ 0 : Nat) : Int) = flInv t a (-1) 1 from rfl] at l1
  generalize ((2 ^ i : Nat) : Int) = hi at *
  generalize (-((2 ^ j : Nat) : Int)) = lo at *
  exact Spec.of_run hG Tryz.func62 (ro := [2]) (m := 60) [.call (Of_spec hG (i := -1) (by omega) (by omega)), .call (Of_spec hG (i := 1) (by omega) (by omega)), .code l1, .code l2, .code l3] (by kernel_rfl)
/-! ### Enclose -/
def enInv (t : Tow) (a : List Rat) (b i : Nat) : St := lay 69 [(1, NumD a), (3, .rptr [.row t.length false (t.map NumD)]), (6, .ptr 0 0), (7, .lit .nilIface), (9, .ptr 1 0), (31, nat b), (32, nat i)] [(0, zeroF ++ zeroF), (1, cW ((2 ^ i : Nat) : Int))]
theorem en_loop (hG : Steady G) {t : Tow} {a : List Rat} {b : Nat} (hb : b ≤ 64) :
    Abs Tryz.prog G 69 0 (.loop (loopOf Tryz.f22 0)) (enInv t a b 0) (.exit 0) (enInv t a b b) := by
  refine Abs.count (P := Tryz.prog) (Good := G) (gb := 0) (fun i => enInv t a b i) b (fun i => lay_len ..) (by intro h; cases h) (fun i hi => ?_) (Goes.of_run hG (ro := []) (m := 60) (lay_len ..) [.eq 33 (eqB (lt_false (Nat.le_refl b)))] (by kernel_rfl))
  have sz := szI_pow (e := i) (i := ((2 ^ i : Nat) : Int)) (by rw [NB_eq]; omega) (Nat.le_refl _)
  have ad := Lw.Add_spec (G := G) hG sz sz
  rw [two_twice] at ad
  unfold enInv
  exact Goes.of_run hG (ro := []) (m := 60) (lay_len ..) [.eq 33 (eqB (lt_true hi)), .call ad, .eq 37 (eqS (nat_succ' hi (by omega)))] (by kernel_rfl)
theorem Enclose_spec (hG : Steady G) {t : Tow} {δ n e b : Nat} {a : List Rat} (hT : TowB δ t) (ha : NumB n t a) (hb : b ≤ 64) (he : n + b + tb δ t.length + pb δ t.length + 1 ≤ e) (h : sb δ t.length (n + b + tb δ t.length + e + 1) ≤ NB) (he2 : e + 2 ≤ NB) :
    ∃ m1 m2 : Int, m1 ≤ -m2 ∧ -m2 ≤ m1 + 1 ∧ (0 < m1 → sgnL t a = 1) ∧ (0 < m2 → sgnL t a = -1) ∧ (m1 = 0 → m2 = 0 → sgnL t a = 0) ∧ m1.natAbs ≤ 2 ^ e ∧ m2.natAbs ≤ 2 ^ e ∧
      Spec Tryz.prog G 22 [TowD t, NumD a, nat b] (.tup [FR (Rat.divInt m1 ((2 ^ b : Nat) : Int)) (Rat.divInt (-m2) ((2 ^ b : Nat) : Int)), .lit .nilIface]) := by
  have s1 := sb_ge δ t.length (n + b + tb δ t.length + e + 1)
  have hw : NumB b t [(((2 ^ b : Nat) : Int) : Rat)] := NumB.whole (Nat.le_refl _)
  have hx := ha.times hT hw
  obtain ⟨m1, p1, p2, p3, c1⟩ := floor_spec (G := G) hG hT hx he h he2
  obtain ⟨m2, p4, p5, p6, c2⟩ := floor_spec (G := G) hG hT hx.minus he h he2
  have szb := szI_pow (e := b) (i := ((2 ^ b : Nat) : Int)) (by rw [NB_eq]; omega) (Nat.le_refl _)
  have p0 : ((2 ^ b : Nat) : Int) ≠ 0 := by have : 0 < 2 ^ b := Nat.pow_pos (by omega); omega
  have key : m1 ≤ -m2 ∧ -m2 ≤ m1 + 1 ∧ (0 < m1 → sgnL t a = 1) ∧ (0 < m2 → sgnL t a = -1) ∧ (m1 = 0 → m2 = 0 → sgnL t a = 0) := by
    obtain ⟨K, _, ι, s, hM⟩ := hT.ok.model t.length (Nat.le_refl _)
    obtain ⟨q1, q2, -⟩ := tmsL_ok ι s t.length a _ hT.ok.sh hM ha.sh hw.sh
    rw [lv_single] at q2
    have hc : (0 : Rat) < (((2 ^ b : Nat) : Int) : Rat) := Rat.intCast_pos.2 (by have : 0 < 2 ^ b := Nat.pow_pos (by omega); omega)
    exact encl ι s hT.ok.sh hM q1 ha.sh hc q2 p1 p2 p4 p5
  obtain ⟨k1, k2, k3, k4, k5⟩ := key
  refine ⟨m1, m2, k1, k2, k3, k4, k5, p3, p6, ?_⟩
  have z1 : SzI m1 := szI_pow (e := e) (by omega) p3
  have z2 : SzI m2 := szI_pow (e := e) (by omega) p6
  have z2' : SzI (-m2) := by unfold SzI; rw [Int.natAbs_neg]; exact z2
  have f1 := From_spec (G := G) hG p0 z1 szb
  have f2 := From_spec (G := G) hG p0 z2' szb
  have lp := en_loop (G := G) hG (t := t) (a := a) hb
  have ti := times_specN (G := G) hG hT ha hw (by omega)
  have mi := minus_specN (G := G) hG hT.ok hx (by omega)
  have wh := whole_specT (G := G) hG szb
  have ng := Lw.Neg_spec (G := G) hG z2
  have z0 : enInv t a b 0 = lay 69 [(1, NumD a), (3, .rptr [.row t.length false (t.map NumD)]), (6, .ptr 0 0), (7, .lit .nilIface), (9, .ptr 1 0), (31, nat b), (32, nat 0)] [(0, zeroF ++ zeroF), (1, cW 1)] := rfl
  rw [z0] at lp
  unfold enInv at lp
  generalize tmsL t t.length a [(((2 ^ b : Nat) : Int) : Rat)] = x at *
  generalize ((2 ^ b : Nat) : Int) = B at *
  generalize Rat.divInt m1 B = r1 at *
  generalize Rat.divInt (-m2) B = r2 at *
  have b1 : decide (Int.ofNat b < 0) = false := by rw [decide_eq_false_iff_not]; simp only [Int.ofNat_eq_natCast]; omega
  have b2 : decide (Int.ofNat b > 64) = false := by rw [decide_eq_false_iff_not]; simp only [Int.ofNat_eq_natCast]; omega
  exact Spec.of_run hG Tryz.func22 (ro := [3]) (m := 60)
    [.call (checks1_spec hG hT ha (by omega)), .eq 23 (eqB b1), .eq 26 (eqB b2), .call (Of_spec hG (i := 1) (by omega) (by omega)), .code lp, .call wh, .call ti, .call c1, .call f1, .call mi, .call c2, .call ng, .call f2] (by kernel_rfl)
end Tw
end Lw
