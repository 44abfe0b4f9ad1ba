/- The contracts of the intervals' square roots, in the program and in the reference. No condition. -/
import Derived.Test.YtcdhaaadohmcoaaGreatDoorLwRg
namespace Lw
open Go Go.RowKit Go.Proofs

variable {G : World → Prop}

/-! ### Plain laws -/
def twoQ (n : Nat) : Rat := ((((2 ^ n : Nat) : Int)) : Rat)
theorem twoQ_next (i : Nat) : twoQ (i + 1) = twoQ i + twoQ i := by unfold twoQ; rw [two_next, Rat.intCast_add]
theorem twoQ_pos (n : Nat) : 0 < twoQ n := Rat.intCast_pos.2 (by have := Nat.two_pow_pos n; omega)
theorem sz_twoQ {n : Nat} (h : n ≤ 256) : SzQ 9 (twoQ n) := sz_int (by omega) (by rw [Int.natAbs_natCast]; exact len_two h)
def sqQ (n : Nat) : Rat := twoQ n * twoQ n
theorem sqQ_pos (n : Nat) : 0 < sqQ n := Rat.mul_pos (twoQ_pos n) (twoQ_pos n)
/-- The least number whose square is at least t. -/
noncomputable def isqUp (t : Int) : Int := if ((isq t.natAbs : Nat) : Int) * ((isq t.natAbs : Nat) : Int) < t then ((isq t.natAbs : Nat) : Int) + 1 else ((isq t.natAbs : Nat) : Int)
noncomputable def rootLo (a : Rat) (n : Nat) : Rat := (((isq (a * sqQ n).floor.natAbs : Nat) : Int) : Rat) / twoQ n
noncomputable def rootHi (b : Rat) (n : Nat) : Rat := ((isqUp (-(-(b * sqQ n)).floor) : Int) : Rat) / twoQ n
theorem floor_nonneg {a : Rat} (h : 0 ≤ a) : 0 ≤ a.floor := Rat.le_floor_iff.2 h
theorem ceil_cases (T : Rat) : (-(-T).floor = T.floor ∧ (T.floor : Rat) = T) ∨ (-(-T).floor = T.floor + 1 ∧ (T.floor : Rat) < T) := by
  have h1 := Rat.floor_le T
  have h2 := Rat.lt_floor_add_one T
  have h3 := Rat.floor_le (-T)
  have h4 := Rat.lt_floor_add_one (-T)
  rw [Rat.intCast_add] at h2 h4
  generalize hf : T.floor = f at *
  generalize hg : (-T).floor = g at *
  have k1 : ((f + g : Int) : Rat) ≤ ((0 : Int) : Rat) := by rw [Rat.intCast_add]; have : ((0:Int):Rat) = 0 := rfl; grind
  have k2 : ((-2 : Int) : Rat) < ((f + g : Int) : Rat) := by rw [Rat.intCast_add]; have : ((-2:Int):Rat) = -2 := rfl; have : ((1:Int):Rat) = 1 := rfl; grind
  rw [Rat.intCast_le_intCast] at k1
  rw [Rat.intCast_lt_intCast] at k2
  have k3 : f + g = 0 ∨ f + g = -1 := by omega
  rcases k3 with k3 | k3
  · left
    refine ⟨by omega, ?_⟩
    have : g = -f := by omega
    rw [this, Rat.intCast_neg] at h3
    grind
  · right
    refine ⟨by omega, ?_⟩
    have hne : (f : Rat) ≠ T := fun e => by
      rw [← e, ← Rat.intCast_neg, Rat.floor_intCast] at hg
      omega
    exact Rat.lt_of_le_of_ne h1 hne
/-- The reference's way to the same number. -/
theorem up_other {T : Rat} (hT : 0 ≤ T) : isqUp (-(-T).floor) = if (((((isq T.floor.natAbs : Nat) : Int) * ((isq T.floor.natAbs : Nat) : Int) : Int)) : Rat) < T then ((isq T.floor.natAbs : Nat) : Int) + 1 else ((isq T.floor.natAbs : Nat) : Int) := by
  have hf := floor_nonneg hT
  obtain ⟨f, hff⟩ : ∃ f : Nat, T.floor = (f : Int) := ⟨T.floor.natAbs, by omega⟩
  have i1 := isq_le f
  have i2 := isq_lt f
  rcases ceil_cases T with ⟨e, h⟩ | ⟨e, h⟩
  · rw [e]
    unfold isqUp
    rw [hff] at h ⊢
    rw [Int.natAbs_natCast, ← h]
    simp only [Rat.intCast_lt_intCast]
  · rw [e]
    rw [hff] at h ⊢
    rw [Int.natAbs_natCast]
    have hm : ((((isq f : Nat) : Int) * ((isq f : Nat) : Int) : Int) : Rat) < T := by
      have : ((((isq f : Nat) : Int) * ((isq f : Nat) : Int) : Int) : Rat) ≤ ((f : Int) : Rat) := Rat.intCast_le_intCast.2 (by rw [← Int.natCast_mul]; omega)
      grind
    rw [if_pos hm]
    unfold isqUp
    have en : ((f : Int) + 1).natAbs = f + 1 := by omega
    rw [en]
    by_cases hq : (isq f + 1) * (isq f + 1) ≤ f + 1
    · have hi : isq (f + 1) = isq f + 1 := isq_unique hq (by
        have : (isq f + 1 + 1) * (isq f + 1 + 1) = (isq f + 1) * (isq f + 1) + 2 * (isq f + 1) + 1 := by grind
        omega)
      rw [hi, if_neg (by rw [← Int.natCast_mul]; omega)]
      omega
    · have hi : isq (f + 1) = isq f := isq_unique (by omega) (by omega)
      rw [hi, if_pos (by rw [← Int.natCast_mul]; omega)]

/-! ### The scale -/
def zeroI : List D := [bool false, rowW [], rowW [], bool false, rowW [], rowW []]
def cR (a b : Rat) : List D := [bool (rawOf a).s, rowW (rawOf a).n, rowW (rawOf a).d, bool (rawOf b).s, rowW (rawOf b).n, rowW (rawOf b).d]
def rsInv (a c : Rat) (b i : Nat) : St := lay 113 [(2, .ptr 0 0), (4, .ptr 1 0), (6, .ptr 2 0), (33, nat b), (34, nat i)] [(0, cR a c), (1, zeroI), (2, cF (twoQ i))]
theorem rs_loop (hG : Steady G) (a c : Rat) {b : Nat} (hb : b ≤ 256) :
    Abs Tryz.prog G 113 0 (.loop (loopOf Tryz.f13 0)) (lay 113 [(2, .ptr 0 0), (4, .ptr 1 0), (6, .ptr 2 0), (33, nat b), (34, nat 0)] [(0, cR a c), (1, zeroI), (2, cF ((1 : Int) : Rat))]) (.exit 0) (rsInv a c b b) := by
  have h60 : (2:Nat) ^ 60 = 1152921504606846976 := by decide
  have h := Abs.count (P := Tryz.prog) (Good := G) (gb := 0) (body := loopOf Tryz.f13 0) (e := .exit 0) (s' := rsInv a c b b) (rsInv a c b) b (fun i => lay_len _ _ _) (by simp)
    (fun i hi => by
      have c := FAdd_spec hG (sz_twoQ (n := i) (by omega)).isQ (sz_twoQ (n := i) (by omega)).isQ (by rw [KB_eq]; omega) (by rw [KB_eq]; omega)
      rw [← twoQ_next] at c
      exact Goes.of_run hG (ro := []) (m := 30) (lay_len ..) [.eq 35 (eqB (lt_true hi)), .call c, .eq 39 (eqS (nat_succ (i := i) (by omega)))] (by kernel_rfl))
    (Goes.of_run hG (ro := []) (m := 30) (lay_len ..) [.eq 35 (eqB (lt_false (Nat.le_refl b)))] (by kernel_rfl))
  exact h
def rrsInv (a c : Rat) (b i : Nat) : St := lay 99 [(2, .ptr 0 0), (4, .ptr 1 0), (6, .ptr 2 0), (35, nat b), (36, nat i)] [(0, cR a c), (1, zeroI), (2, cW ((2 ^ i : Nat) : Int))]
theorem rrs_loop (hG : Steady G) (a c : Rat) {b : Nat} (hb : b ≤ 256) :
    Abs Tryz.prog G 99 0 (.loop (loopOf Tryz.f15 0)) (lay 99 [(2, .ptr 0 0), (4, .ptr 1 0), (6, .ptr 2 0), (35, nat b), (36, nat 0)] [(0, cR a c), (1, zeroI), (2, cW 1)]) (.exit 0) (rrsInv a c b b) := by
  have h60 : (2:Nat) ^ 60 = 1152921504606846976 := by decide
  have h := Abs.count (P := Tryz.prog) (Good := G) (gb := 0) (body := loopOf Tryz.f15 0) (e := .exit 0) (s' := rrsInv a c b b) (rrsInv a c b) b (fun i => lay_len _ _ _) (by simp)
    (fun i hi => by
      have c := RAdd_spec (G := G) hG (szI_two (b := i) (by omega)) (szI_two (b := i) (by omega))
      rw [← two_next] at c
      exact Goes.of_run hG (ro := []) (m := 30) (lay_len ..) [.eq 37 (eqB (lt_true hi)), .call c, .eq 41 (eqS (nat_succ (i := i) (by omega)))] (by kernel_rfl))
    (Goes.of_run hG (ro := []) (m := 30) (lay_len ..) [.eq 37 (eqB (lt_false (Nat.le_refl b)))] (by kernel_rfl))
  exact h

/-! ### Root -/
def RK : Nat := 1000000
theorem RK_eq : RK = 1000000 := rfl
theorem szI_of {k : Nat} {i : Int} (h : (words i.natAbs).length ≤ k) (hk : k ≤ KB) : SzI i := by
  rw [KB_eq] at hk
  unfold SzI Sz
  have h30 : (2:Nat) ^ 30 = 1073741824 := by decide
  omega
theorem len_isq (n : Nat) : (words (isq n)).length ≤ (words n).length := len_mono (isq_le_self n)
theorem rat_le_neg {a : Rat} (h : ¬ a < 0) : 0 ≤ a := by rw [Rat.not_lt] at h; exact h
theorem cmpZ_lt_true {i j : Int} (h : i < j) : decide (cmpZ i j < 0) = true := by unfold cmpZ; rw [if_pos h]; rfl
theorem cmpZ_lt_false {i j : Int} (h : ¬ i < j) : decide (cmpZ i j < 0) = false := by unfold cmpZ; rw [if_neg h]; split <;> rfl
theorem cmpQ_lt_true {a b : Rat} (h : a < b) : decide (cmpQ a b < 0) = true := by unfold cmpQ; rw [if_pos h]; rfl
theorem cmpQ_lt_false {a b : Rat} (h : ¬ a < b) : decide (cmpQ a b < 0) = false := by unfold cmpQ; rw [if_neg h]; split <;> rfl
theorem IRoot_spec (hG : Steady G) {k b : Nat} {x : D} {lo hi : Rat} (hx : IsI k x lo hi) (hk : k ≤ RK) (hb : b ≤ 256) (h0 : 0 ≤ lo) :
    Spec Tryz.prog G 13 [x, nat b] (.tup [FR (rootLo lo b) (rootHi hi b), .lit .nilIface]) := by
  rw [RK_eq] at hk
  have hkb := KB_eq
  have h30 : (2:Nat) ^ 30 = 1073741824 := by decide
  have c1 := clean_spec hG hx (by omega)
  obtain ⟨sa, sb⟩ := hx.szL
  have h1 : 0 ≤ hi := Rat.le_trans h0 hx.le
  have sg := FSign_spec hG sa.isQ (by omega)
  have s2 := sz_twoQ hb
  have of1 := FOf_spec (G := G) hG (i := 1) (by omega) (by omega)
  have sq1 := FMul_spec hG s2.isQ s2.isQ (by omega) (by omega)
  have ssq : SzQ (9 + 9) (sqQ b) := s2.mul s2
  have m1 := FMul_spec hG sa.isQ ssq.isQ (by omega) (by omega)
  have ma := sa.mul ssq
  have fl1 := Floor_spec hG ma.isQ (by omega)
  have la := sz_floor ma
  have p1 : 0 ≤ lo * sqQ b := Rat.mul_nonneg h0 (Rat.le_of_lt (sqQ_pos b))
  have r1 := Root_spec (G := G) hG (szI_of la (by omega)) (floor_nonneg p1)
  have m2 := FMul_spec hG sb.isQ ssq.isQ (by omega) (by omega)
  have mb := sb.mul ssq
  have ng := FNeg_spec hG mb.isQ (by omega)
  have fl2 := Floor_spec hG mb.neg.isQ (by omega)
  have lb := sz_floor mb.neg
  have ni := Neg_spec (G := G) hG (szI_of lb (by omega))
  have p2 : 0 ≤ hi * sqQ b := Rat.mul_nonneg h1 (Rat.le_of_lt (sqQ_pos b))
  have lt : (words (-(-(hi * sqQ b)).floor).natAbs).length ≤ k + (9 + 9) := by rw [Int.natAbs_neg]; exact lb
  have p3 : 0 ≤ -(-(hi * sqQ b)).floor := by
    have := floor_nonneg p2
    rcases ceil_cases (hi * sqQ b) with ⟨e, -⟩ | ⟨e, -⟩ <;> omega
  have r2 := Root_spec (G := G) hG (szI_of lt (by omega)) p3
  generalize hT : -(-(hi * sqQ b)).floor = T at *
  have l1 := len_isq (lo * sqQ b).floor.natAbs
  have l2 := len_isq T.natAbs
  have l1' : (words ((isq (lo * sqQ b).floor.natAbs : Nat) : Int).natAbs).length ≤ k + (9 + 9) := by rw [Int.natAbs_natCast]; omega
  have l2' : (words ((isq T.natAbs : Nat) : Int).natAbs).length ≤ k + (9 + 9) := by rw [Int.natAbs_natCast]; omega
  have mm := Mul_spec (G := G) hG (szI_of l2' (by omega)) (szI_of l2' (by omega))
  have szmm := szI_mul l2' l2' (by omega) (by omega)
  have cc := Cmp_spec (G := G) hG szmm (szI_of lt (by omega))
  have of2 := Of_spec (G := G) hG (i := 1) (by omega) (by omega)
  have ad := Add_spec (G := G) hG (szI_of l2' (by omega)) szI_one
  have f1 := From_spec (G := G) hG (d := 1) (by omega) (szI_of l1' (by omega)) szI_one
  rw [ofI] at f1
  have x1 := FDiv_spec hG (sz_int (by omega) l1').isQ s2.isQ (by omega) (by omega) (Rat.ne_of_gt (twoQ_pos b))
  have elt : decide (Int.ofNat b < 0) = false := by simp
  have egt : decide (Int.ofNat b > 256) = false := by simp only [Int.ofNat_eq_natCast, decide_eq_false_iff_not]; omega
  have esg : decide (sgn lo < 0) = false := sgn_lt_false (by rw [Rat.not_lt]; exact h0)
  have hloop := rs_loop (G := G) hG lo hi hb
  unfold rootLo rootHi
  rw [hT]
  unfold isqUp
  by_cases hlt : ((isq T.natAbs : Nat) : Int) * ((isq T.natAbs : Nat) : Int) < T
  · rw [if_pos hlt]
    have l3 : (words (((isq T.natAbs : Nat) : Int) + 1).natAbs).length ≤ k + (9 + 9) + 1 := by
      have := len_addI (a := ((isq T.natAbs : Nat) : Int)) (b := 1)
      have e1 : (words (1 : Int).natAbs).length = 1 := rfl
      omega
    have f2 := From_spec (G := G) hG (d := 1) (by omega) (szI_of l3 (by omega)) szI_one
    rw [ofI] at f2
    have x2 := FDiv_spec hG (sz_int (by omega) l3).isQ s2.isQ (by omega) (by omega) (Rat.ne_of_gt (twoQ_pos b))
    obtain ⟨r, rfl, -, -, -⟩ := hx
    exact Spec.of_run hG Tryz.func13 (ro := []) (m := 60)
      [.eq 17 (eqB elt), .eq 20 (eqB egt), .call c1, .call sg, .eq 29 (eqB esg), .call of1, .code hloop, .call sq1, .call m1, .call fl1, .call r1, .call m2, .call ng, .call fl2, .call ni, .call r2,
       .call mm, .call cc, .eq 77 (eqB (cmpZ_lt_true hlt)), .call of2, .call ad, .call of2, .call f1, .call of2, .call f2, .call x1, .call x2] (by kernel_rfl)
  · rw [if_neg hlt]
    have f2 := From_spec (G := G) hG (d := 1) (by omega) (szI_of l2' (by omega)) szI_one
    rw [ofI] at f2
    have x2 := FDiv_spec hG (sz_int (by omega) l2').isQ s2.isQ (by omega) (by omega) (Rat.ne_of_gt (twoQ_pos b))
    obtain ⟨r, rfl, -, -, -⟩ := hx
    exact Spec.of_run hG Tryz.func13 (ro := []) (m := 60)
      [.eq 17 (eqB elt), .eq 20 (eqB egt), .call c1, .call sg, .eq 29 (eqB esg), .call of1, .code hloop, .call sq1, .call m1, .call fl1, .call r1, .call m2, .call ng, .call fl2, .call ni, .call r2,
       .call mm, .call cc, .eq 77 (eqB (cmpZ_lt_false hlt)), .call of2, .call f1, .call of2, .call f2, .call x1, .call x2] (by kernel_rfl)
end Lw
