/- The contracts of the intervals: grids and roots, in the program and in the reference. No condition. -/
import Derived.Test.YtcdhaaadohmcoaaGreatDoorLwRf
namespace Lw
open Go Go.RowKit Go.Proofs

variable {G : World → Prop}

/-! ### Floors -/
theorem floor_divInt {n d : Int} (hd : 0 < d) : (Rat.divInt n d).floor = n / d := by
  have key : ∀ x : Int, x ≤ (Rat.divInt n d).floor ↔ x ≤ n / d := by
    intro x
    have hd' : (0 : Rat) < (d : Rat) := Rat.intCast_pos.2 hd
    rw [Rat.le_floor_iff, ← Rat.not_lt, Rat.divInt_eq_div, Rat.div_lt_iff hd', ← Rat.intCast_mul, Rat.intCast_lt_intCast, Int.not_lt, Int.le_ediv_iff_mul_le hd]
  exact Int.le_antisymm ((key _).1 (Int.le_refl _)) ((key _).2 (Int.le_refl _))
theorem mul_int (a : Rat) (n : Int) : a * (n : Rat) = Rat.divInt (a.num * n) a.den := by
  conv => lhs; rw [← Rat.num_divInt_den a, ← ofI n]
  rw [Rat.divInt_mul_divInt, Int.mul_one]
theorem floor_mul (a : Rat) (n : Int) : (a * (n : Rat)).floor = a.num * n / (a.den : Int) := by
  rw [mul_int, floor_divInt (by have := a.den_pos; omega)]

/-! ### The reference's grid -/
def cW (n : Int) : List D := [bool (decide (n < 0)), rowW (words n.natAbs)]
def cF (q : Rat) : List D := [bool (rawOf q).s, rowW (rawOf q).n, rowW (rawOf q).d]
def zeroF : List D := [bool false, rowW [], rowW []]
theorem two_next (i : Nat) : ((2 ^ (i + 1) : Nat) : Int) = ((2 ^ i : Nat) : Int) + ((2 ^ i : Nat) : Int) := by rw [Nat.pow_succ]; omega
def rgrInv (r : Raw) (b i : Nat) : St := lay 46 [(2, .rptr [bool r.s, rowW r.n, rowW r.d]), (4, .ptr 0 0), (6, .ptr 1 0), (20, nat b), (21, nat i)] [(0, zeroF), (1, cW ((2 ^ i : Nat) : Int))]
theorem rgr_loop (hG : Steady G) (r : Raw) {b : Nat} (hb : b ≤ 256) :
    Abs Tryz.prog G 46 0 (.loop (loopOf Tryz.f75 0)) (lay 46 [(2, .rptr [bool r.s, rowW r.n, rowW r.d]), (4, .ptr 0 0), (6, .ptr 1 0), (20, nat b), (21, nat 0)] [(0, zeroF), (1, cW 1)]) (.exit 0) (rgrInv r b b) := by
  have h60 : (2:Nat) ^ 60 = 1152921504606846976 := by decide
  have h := Abs.count (P := Tryz.prog) (Good := G) (gb := 0) (body := loopOf Tryz.f75 0) (e := .exit 0) (s' := rgrInv r b b) (rgrInv r b) b (fun i => lay_len _ _ _) (by simp)
    (fun i hi => by
      have c := RAdd_spec (G := G) hG (szI_two (b := i) (by omega)) (szI_two (b := i) (by omega))
      rw [← two_next] at c
      exact Goes.of_run hG (ro := []) (m := 30) (lay_len ..) [.eq 22 (eqB (lt_true hi)), .call c, .eq 26 (eqS (nat_succ (i := i) (by omega)))] (by kernel_rfl))
    (Goes.of_run hG (ro := []) (m := 30) (lay_len ..) [.eq 22 (eqB (lt_false (Nat.le_refl b)))] (by kernel_rfl))
  exact h
theorem RGrid_spec (hG : Steady G) {k b : Nat} {x : D} {a : Rat} (hx : IsQ k x a) (hk : k + 9 ≤ KB) (hb : b ≤ 256) : Spec Tryz.prog G 75 [x, nat b] (.tup [F (gridQ a b), int 0]) := by
  have p1 := hx.rparts hG (by omega)
  have l2 : (words ((2 ^ b : Nat) : Int).natAbs).length ≤ 9 := by rw [Int.natAbs_natCast]; exact len_two hb
  have szm := szI_mul (i := a.num) (j := ((2 ^ b : Nat) : Int)) hx.sz.1 l2 (by omega) (by rw [KB_eq]; omega)
  have m1 := RMul_spec (G := G) hG (hx.num (by omega)) (szI_two hb)
  have d1 := RDiv_spec (G := G) hG szm (hx.den (by omega)) (den_ne a)
  have szq : SzI (a.num * ((2 ^ b : Nat) : Int) / (a.den : Int)) := by
    have h1 := Int.natAbs_ediv_le_natAbs (a.num * ((2 ^ b : Nat) : Int)) (a.den : Int)
    unfold SzI Sz at szm ⊢
    exact Nat.le_trans (len_mono h1) szm
  have f1 := RFrom_spec (G := G) hG (two_ne b) szq (szI_two hb)
  have e : Rat.divInt (a.num * ((2 ^ b : Nat) : Int) / (a.den : Int)) ((2 ^ b : Nat) : Int) = gridQ a b := by unfold gridQ; rw [floor_mul]
  rw [e] at f1
  obtain ⟨r, rfl, -, rfl⟩ := hx
  exact Spec.of_run hG Tryz.func75 (ro := [2]) (m := 40)
    [.eq 13 (eqB (x := decide (Int.ofNat b < 0)) (y := false) (by simp)), .eq 16 (eqB (x := decide (Int.ofNat b > 256)) (y := false) (by simp only [Int.ofNat_eq_natCast, decide_eq_false_iff_not]; omega)),
     .call (rone_spec hG), .code (rgr_loop hG r hb), .call p1, .call m1, .call d1, .call f1] (by kernel_rfl)
theorem RGrid_bad (hG : Steady G) {k : Nat} {x : D} {a : Rat} (hx : IsQ k x a) {b : Int} (hb : b < 0 ∨ 256 < b) : Spec Tryz.prog G 75 [x, int b] (.tup [F 0, int 3]) := by
  obtain ⟨r, rfl, -, rfl⟩ := hx
  by_cases h : b < 0
  · exact Spec.of_run hG Tryz.func75 (ro := [2]) (m := 40) [.eq 13 (eqB (decide_eq_true h))] (by kernel_rfl)
  · have h2 : b > 256 := by omega
    exact Spec.of_run hG Tryz.func75 (ro := [2]) (m := 40) [.eq 13 (eqB (decide_eq_false h)), .eq 16 (eqB (decide_eq_true h2))] (by kernel_rfl)

/-! ### Out -/
theorem Out_spec (hG : Steady G) {k b : Nat} {x : D} {lo hi : Rat} (hx : IsI k x lo hi) (hk : k + 9 ≤ KB) (hb : b ≤ 256) :
    Spec Tryz.prog G 12 [x, nat b] (.tup [FR (gridQ lo b) (-(gridQ (-hi) b)), .lit .nilIface]) := by
  have c1 := clean_spec hG hx (by omega)
  obtain ⟨sa, sb⟩ := hx.szL
  have g1 := Grid_spec hG sa.isQ hk hb
  have n1 := FNeg_spec hG sb.isQ (by omega)
  have g2 := Grid_spec hG sb.neg.isQ hk hb
  have n2 := FNeg_spec hG (sb.neg.grid hb).isQ (by omega)
  obtain ⟨r, rfl, -, -, -⟩ := hx
  exact Spec.of_run hG Tryz.func12 (ro := []) (m := 40) [.call c1, .call g1, .call n1, .call g2, .call n2] (by kernel_rfl)
theorem Out_bad (hG : Steady G) {k : Nat} {x : D} {lo hi : Rat} (hx : IsI k x lo hi) (hk : k ≤ KB) {b : Int} (hb : b < 0 ∨ 256 < b) :
    Spec Tryz.prog G 12 [x, int b] (.tup [FR 0 0, errno 3]) := by
  have c1 := clean_spec hG hx hk
  obtain ⟨sa, sb⟩ := hx.szL
  have g1 := Grid_bad hG sa.isQ hb
  obtain ⟨r, rfl, -, -, -⟩ := hx
  exact Spec.of_run hG Tryz.func12 (ro := []) (m := 40) [.call c1, .call g1] (by kernel_rfl)
theorem up_spec' (hG : Steady G) {k b : Nat} {x : D} {a : Rat} (hx : IsQ k x a) (hk : k + 9 ≤ KB) (hb : b ≤ 256) : Spec Tryz.prog G 76 [x, nat b] (F (-(gridQ (-a) b))) := by
  have n1 := RFNeg_spec hG hx (by omega)
  have g2 := RGrid_spec hG hx.sz.neg.isQ hk hb
  have n2 := RFNeg_spec hG (hx.sz.neg.grid hb).isQ (by omega)
  obtain ⟨r, rfl, -, rfl⟩ := hx
  exact Spec.of_run hG Tryz.func76 (ro := [2]) (m := 40) [.call n1, .call g2, .call n2] (by kernel_rfl)
theorem ROut_spec (hG : Steady G) {k b : Nat} {x : D} {lo hi : Rat} (hx : IsI k x lo hi) (hk : k + k + 9 < KB) (hb : b ≤ 256) :
    Spec Tryz.prog G 14 [x, nat b] (.tup [FR (gridQ lo b) (-(gridQ (-hi) b)), int 0]) := by
  have c1 := given_spec hG hx (by omega)
  obtain ⟨sa, sb⟩ := hx.szL
  have g1 := RGrid_spec hG sa.isQ (by omega) hb
  have u1 := up_spec' hG sb.isQ (by omega) hb
  obtain ⟨r, rfl, -, -, -⟩ := hx
  exact Spec.of_run hG Tryz.func14 (ro := []) (m := 40) [.call c1, .call g1, .call u1] (by kernel_rfl)
theorem ROut_bad (hG : Steady G) {k : Nat} {x : D} {lo hi : Rat} (hx : IsI k x lo hi) (hk : k + k < KB) {b : Int} (hb : b < 0 ∨ 256 < b) :
    Spec Tryz.prog G 14 [x, int b] (.tup [FR 0 0, int 3]) := by
  have c1 := given_spec hG hx hk
  obtain ⟨sa, sb⟩ := hx.szL
  have g1 := RGrid_bad hG sa.isQ hb
  obtain ⟨r, rfl, -, -, -⟩ := hx
  exact Spec.of_run hG Tryz.func14 (ro := []) (m := 40) [.call c1, .call g1] (by kernel_rfl)
end Lw
