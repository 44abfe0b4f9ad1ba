/- Lists of displacements: checks, and the poles of all pairs, run. The runs of All were printed by mkall.py. No condition. -/
import Derived.Test.YthccbdlkfiogiaaGreatDoorLwPp
namespace Lw
open Go Go.RowKit Go.Proofs

variable {G : World → Prop}

/-! ### checks -/
def chkInv (l : List RPo) (i : Nat) : St := lay 16 [(5, rowS RPo.cells l), (6, nat l.length), (7, nat i)] []
theorem chk_good (hG : Steady G) {l : List RPo} {i : Nat} (hi : i < l.length) (hb : l.length ≤ 9223372036854775807) (hk : ∀ r ∈ l, r.ok 2) (hv : (l.getD i RPo.zero).valid = true) :
    Goes Tryz.prog G 0 (loopOf Tryz.f58 0) (chkInv l i) .normal (chkInv l (i + 1)) := by
  have e := aggS RPo.cells_len hi RPo.zero
  have v := PValid_spec (G := G) hG (hk _ (getD_mem hi RPo.zero)) (by rw [KB_eq]; omega)
  rw [hv] at v
  generalize l.getD i RPo.zero = r at e v
  exact Goes.of_run hG (ro := []) (m := 60) (lay_len ..)
    [.eq 8 (Lw.eqB (lt_true hi)), .prop (atS_need RPo.cells_len (by omega) hi), .prop (loadS_need RPo.cells_len (by omega) hi), .eq 10 e, .call v, .eq 15 (eqS (nat_succ' hi hb))] (by kernel_rfl)
theorem chk_bad (hG : Steady G) {l : List RPo} {i : Nat} (hi : i < l.length) (hk : ∀ r ∈ l, r.ok 2) (hv : ¬ (l.getD i RPo.zero).valid = true) :
    Goes Tryz.prog G 0 (loopOf Tryz.f58 0) (chkInv l i) .ret (lay 16 [(2, errno 2)] []) := by
  have e := aggS RPo.cells_len hi RPo.zero
  have v := PValid_spec (G := G) hG (hk _ (getD_mem hi RPo.zero)) (by rw [KB_eq]; omega)
  rw [Bool.not_eq_true] at hv
  rw [hv] at v
  generalize l.getD i RPo.zero = r at e v
  exact Goes.of_run hG (ro := []) (m := 60) (lay_len ..)
    [.eq 8 (Lw.eqB (lt_true hi)), .prop (atS_need RPo.cells_len (by omega) hi), .prop (loadS_need RPo.cells_len (by omega) hi), .eq 10 e, .call v] (by kernel_rfl)
theorem chkL (hG : Steady G) (l : List RPo) (hb : l.length ≤ 9223372036854775807) (hk : ∀ r ∈ l, r.ok 2) : Spec Tryz.prog G 58 [rowS RPo.cells l] (if ∀ r ∈ l, r.valid = true then .lit .nilIface else errno 2) := by
  rcases all_or_first (fun r => RPo.valid r = true) RPo.zero l with h | ⟨i, h1, h2, h3⟩
  · rw [if_pos h]
    have lp := Abs.count (P := Tryz.prog) (Good := G) (gb := 0) (body := loopOf Tryz.f58 0) (e := .exit 0) (s' := chkInv l l.length) (fun i => chkInv l i) l.length (fun i => lay_len ..) (by intro h; cases h)
      (fun i hi => chk_good hG hi hb hk (h _ (getD_mem hi _))) (Goes.of_run hG (ro := []) (m := 60) (lay_len ..) [.eq 8 (Lw.eqB (lt_false (Nat.le_refl l.length)))] (by kernel_rfl))
    exact Spec.of_run hG Tryz.func58 (ro := []) (m := 60) [.code lp] (by kernel_rfl)
  · rw [if_neg fun h => h2 (h _ (getD_mem h1 _))]
    have lp := Abs.count (P := Tryz.prog) (Good := G) (gb := 0) (body := loopOf Tryz.f58 0) (e := .ret) (s' := lay 16 [(2, errno 2)] []) (fun i => chkInv l i) i (fun i => lay_len ..) (by intro h; cases h)
      (fun j hj => chk_good hG (by omega) hb hk (h3 j hj)) (chk_bad hG h1 hk h2)
    exact Spec.of_run hG Tryz.func58 (ro := []) (m := 60) [.code lp] (by kernel_rfl)
theorem lt2_true {n : Nat} (h : n < 2) : decide (Int.ofNat n < 2) = true := by simp only [Int.ofNat_eq_natCast, decide_eq_true_eq]; omega
theorem lt2_false {n : Nat} (h : ¬ n < 2) : decide (Int.ofNat n < 2) = false := by simp only [Int.ofNat_eq_natCast, decide_eq_false_iff_not]; omega
theorem gtn_true {n k : Nat} (h : k < n) : decide (Int.ofNat n > Int.ofNat k) = true := by simp only [Int.ofNat_eq_natCast, decide_eq_true_eq]; omega
theorem gtn_false {n k : Nat} (h : ¬ k < n) : decide (Int.ofNat n > Int.ofNat k) = false := by simp only [Int.ofNat_eq_natCast, decide_eq_false_iff_not]; omega
/-- The number of the error of a list. -/
def chkCode (l : List RPo) : Int := if l.length < 2 then 10 else if 5 < l.length then 4 else if ∀ r ∈ l, r.valid = true then 0 else 2
def chkErr (l : List RPo) : D := if chkCode l = 0 then .lit .nilIface else errno (chkCode l)
theorem ChkL (hG : Steady G) (l : List RPo) (hb : l.length ≤ 9223372036854775807) (hk : ∀ r ∈ l, r.ok 2) : Spec Tryz.prog G 39 [rowS RPo.cells l] (chkErr l) := by
  unfold chkErr chkCode
  by_cases h1 : l.length < 2
  · rw [if_pos h1]
    exact Spec.of_run hG Tryz.func39 (ro := []) (m := 60) [.eq 5 (Lw.eqB (lt2_true h1))] (by kernel_rfl)
  · rw [if_neg h1]
    by_cases h2 : 5 < l.length
    · rw [if_pos h2]
      exact Spec.of_run hG Tryz.func39 (ro := []) (m := 60) [.eq 5 (Lw.eqB (lt2_false h1)), .eq 9 (Lw.eqB (gtn_true h2))] (by kernel_rfl)
    · rw [if_neg h2]
      have c := chkL (G := G) hG l hb hk
      by_cases h3 : ∀ r ∈ l, r.valid = true
      · rw [if_pos h3] at c ⊢
        exact Spec.of_run hG Tryz.func39 (ro := []) (m := 60) [.eq 5 (Lw.eqB (lt2_false h1)), .eq 9 (Lw.eqB (gtn_false h2)), .call c] (by kernel_rfl)
      · rw [if_neg h3] at c ⊢
        exact Spec.of_run hG Tryz.func39 (ro := []) (m := 60) [.eq 5 (Lw.eqB (lt2_false h1)), .eq 9 (Lw.eqB (gtn_false h2)), .call c] (by kernel_rfl)
def rchkInv (l : List RPo) (i : Nat) : St := lay 23 [(13, rowS RPo.cells l), (14, nat l.length), (15, nat i)] []
theorem rchk_good (hG : Steady G) {l : List RPo} {i : Nat} (hi : i < l.length) (hb : l.length ≤ 9223372036854775807) (hk : ∀ r ∈ l, r.ok 2) (hv : (l.getD i RPo.zero).valid = true) :
    Goes Tryz.prog G 0 (loopOf Tryz.f38 0) (rchkInv l i) .normal (rchkInv l (i + 1)) := by
  have e := aggS RPo.cells_len hi RPo.zero
  have v := PRValid_spec (G := G) hG (hk _ (getD_mem hi RPo.zero)) (by rw [KB_eq]; omega)
  rw [hv] at v
  generalize l.getD i RPo.zero = r at e v
  exact Goes.of_run hG (ro := []) (m := 60) (lay_len ..)
    [.eq 16 (Lw.eqB (lt_true hi)), .prop (atS_need RPo.cells_len (by omega) hi), .prop (loadS_need RPo.cells_len (by omega) hi), .eq 18 e, .call v, .eq 22 (eqS (nat_succ' hi hb))] (by kernel_rfl)
theorem rchk_bad (hG : Steady G) {l : List RPo} {i : Nat} (hi : i < l.length) (hk : ∀ r ∈ l, r.ok 2) (hv : ¬ (l.getD i RPo.zero).valid = true) :
    Goes Tryz.prog G 0 (loopOf Tryz.f38 0) (rchkInv l i) .ret (lay 23 [(2, int 2)] []) := by
  have e := aggS RPo.cells_len hi RPo.zero
  have v := PRValid_spec (G := G) hG (hk _ (getD_mem hi RPo.zero)) (by rw [KB_eq]; omega)
  rw [Bool.not_eq_true] at hv
  rw [hv] at v
  generalize l.getD i RPo.zero = r at e v
  exact Goes.of_run hG (ro := []) (m := 60) (lay_len ..)
    [.eq 16 (Lw.eqB (lt_true hi)), .prop (atS_need RPo.cells_len (by omega) hi), .prop (loadS_need RPo.cells_len (by omega) hi), .eq 18 e, .call v] (by kernel_rfl)
theorem RChkL (hG : Steady G) (l : List RPo) (hb : l.length ≤ 9223372036854775807) (hk : ∀ r ∈ l, r.ok 2) : Spec Tryz.prog G 38 [rowS RPo.cells l] (int (chkCode l)) := by
  unfold chkCode
  by_cases h1 : l.length < 2
  · rw [if_pos h1]
    exact Spec.of_run hG Tryz.func38 (ro := []) (m := 60) [.eq 8 (Lw.eqB (lt2_true h1))] (by kernel_rfl)
  · rw [if_neg h1]
    by_cases h2 : 5 < l.length
    · rw [if_pos h2]
      exact Spec.of_run hG Tryz.func38 (ro := []) (m := 60) [.eq 8 (Lw.eqB (lt2_false h1)), .eq 12 (Lw.eqB (gtn_true h2))] (by kernel_rfl)
    · rw [if_neg h2]
      rcases all_or_first (fun r => RPo.valid r = true) RPo.zero l with h | ⟨i, g1, g2, g3⟩
      · rw [if_pos h]
        have lp := Abs.count (P := Tryz.prog) (Good := G) (gb := 0) (body := loopOf Tryz.f38 0) (e := .exit 1) (s' := rchkInv l l.length) (fun i => rchkInv l i) l.length (fun i => lay_len ..) (by intro h; cases h)
          (fun i hi => rchk_good hG hi hb hk (h _ (getD_mem hi _))) (Goes.of_run hG (ro := []) (m := 60) (lay_len ..) [.eq 16 (Lw.eqB (lt_false (Nat.le_refl l.length)))] (by kernel_rfl))
        exact Spec.of_run hG Tryz.func38 (ro := []) (m := 60) [.eq 8 (Lw.eqB (lt2_false h1)), .eq 12 (Lw.eqB (gtn_false h2)), .code lp] (by kernel_rfl)
      · rw [if_neg fun h => g2 (h _ (getD_mem g1 _))]
        have lp := Abs.count (P := Tryz.prog) (Good := G) (gb := 0) (body := loopOf Tryz.f38 0) (e := .ret) (s' := lay 23 [(2, int 2)] []) (fun i => rchkInv l i) i (fun i => lay_len ..) (by intro h; cases h)
          (fun j hj => rchk_good hG (by omega) hb hk (g3 j hj)) (rchk_bad hG g1 hk g2)
        exact Spec.of_run hG Tryz.func38 (ro := []) (m := 60) [.eq 8 (Lw.eqB (lt2_false h1)), .eq 12 (Lw.eqB (gtn_false h2)), .code lp] (by kernel_rfl)
theorem check_valid (hG : Steady G) {l : List RPo} (h1 : 2 ≤ l.length) (h2 : l.length ≤ 5) (h : ∀ r ∈ l, r.ok 2 ∧ r.valid = true) : Spec Tryz.prog G 39 [rowS RPo.cells l] (.lit .nilIface) := by
  have c := ChkL (G := G) hG l (by omega) (fun r hr => (h r hr).1)
  have e : chkCode l = 0 := by unfold chkCode; rw [if_neg (by omega), if_neg (by omega), if_pos fun r hr => (h r hr).2]
  unfold chkErr at c
  rw [if_pos e] at c
  exact c

/-! ### All -/
def pl (m w : Mv) : RPl := ⟨rawOf (m.bet w).fixX, rawOf (m.bet w).fixY⟩
theorem pl_ok {m w : Mv} (h : m.ok 2) (g : w.ok 2) : ∃ x y : Rat, SzQ (16 * 86 + 40) x ∧ SzQ (16 * 86 + 40) y ∧ pl m w = ⟨rawOf x, rawOf y⟩ := by
  obtain ⟨f1, f2⟩ := Mv.fix_sz (Mv.bet_ok h g)
  exact ⟨_, _, f1, f2, rfl⟩
/-- What both make of a list: the same poles, or the same error. -/
def AllBoth (G : World → Prop) (ms : List Mv) : Prop :=
  (∃ ps : List RPl, (∀ p ∈ ps, ∃ x y : Rat, SzQ (16 * 86 + 40) x ∧ SzQ (16 * 86 + 40) y ∧ p = ⟨rawOf x, rawOf y⟩) ∧ ps.length ≤ 9223372036854775807 ∧
    Spec Tryz.prog G 37 [rowS RPo.cells (ms.map Mv.raw)] (.tup [rowS RPl.cells ps, .lit .nilIface]) ∧ Spec Tryz.prog G 40 [rowS RPo.cells (ms.map Mv.raw)] (.tup [rowS RPl.cells ps, int 0])) ∨
  (Spec Tryz.prog G 37 [rowS RPo.cells (ms.map Mv.raw)] (.tup [rowS RPl.cells [], errno 8]) ∧ Spec Tryz.prog G 40 [rowS RPo.cells (ms.map Mv.raw)] (.tup [rowS RPl.cells [], int 8]))
theorem All2_ok (hG : Steady G) {m0 m1 : Mv} (h0 : m0.ok 2) (h1 : m1.ok 2) (n01 : ¬ (m0.bet m1).still) : Spec Tryz.prog G 37 [rowS RPo.cells [m0.raw, m1.raw]] (.tup [rowS RPl.cells [pl m0 m1], .lit .nilIface]) := by
  have cv := check_valid (G := G) hG (l := [m0.raw, m1.raw]) (by simp) (by simp) (by intro r hr; simp at hr; rcases hr with rfl | rfl; (· exact ⟨Mv.raw_ok h0, Mv.raw_valid h0⟩); (· exact ⟨Mv.raw_ok h1, Mv.raw_valid h1⟩))
  exact Spec.of_run hG Tryz.func37 (ro := []) (m := 60) [.call cv, .call (Pole_ok hG h0 h1 n01)] (by kernel_rfl)
theorem All2_still (hG : Steady G) {m0 m1 : Mv} (h0 : m0.ok 2) (h1 : m1.ok 2) (hs : (m0.bet m1).still) : Spec Tryz.prog G 37 [rowS RPo.cells [m0.raw, m1.raw]] (.tup [rowS RPl.cells [], errno 8]) := by
  have cv := check_valid (G := G) hG (l := [m0.raw, m1.raw]) (by simp) (by simp) (by intro r hr; simp at hr; rcases hr with rfl | rfl; (· exact ⟨Mv.raw_ok h0, Mv.raw_valid h0⟩); (· exact ⟨Mv.raw_ok h1, Mv.raw_valid h1⟩))
  by_cases n01 : (m0.bet m1).still
  · exact Spec.of_run hG Tryz.func37 (ro := []) (m := 60) [.call cv, .call (Pole_still hG h0 h1 n01)] (by kernel_rfl)
  exact absurd hs (by simp [n01])
theorem RAll2_ok (hG : Steady G) {m0 m1 : Mv} (h0 : m0.ok 2) (h1 : m1.ok 2) (n01 : ¬ (m0.bet m1).still) : Spec Tryz.prog G 40 [rowS RPo.cells [m0.raw, m1.raw]] (.tup [rowS RPl.cells [pl m0 m1], int 0]) := by
  exact Spec.of_run hG Tryz.func40 (ro := []) (m := 60) [.call (RPole_ok hG h0 h1 n01)] (by kernel_rfl)
theorem RAll2_still (hG : Steady G) {m0 m1 : Mv} (h0 : m0.ok 2) (h1 : m1.ok 2) (hs : (m0.bet m1).still) : Spec Tryz.prog G 40 [rowS RPo.cells [m0.raw, m1.raw]] (.tup [rowS RPl.cells [], int 8]) := by
  by_cases n01 : (m0.bet m1).still
  · exact Spec.of_run hG Tryz.func40 (ro := []) (m := 60) [.call (RPole_still hG h0 h1 n01)] (by kernel_rfl)
  exact absurd hs (by simp [n01])
theorem both2 (hG : Steady G) {m0 m1 : Mv} (h0 : m0.ok 2) (h1 : m1.ok 2) : AllBoth G [m0, m1] := by
  by_cases hs : (m0.bet m1).still
  · exact .inr ⟨All2_still hG h0 h1 hs, RAll2_still hG h0 h1 hs⟩
  · have hs := hs
    have n01 := hs
    exact .inl ⟨_, by intro p hp; simp at hp; rcases hp with rfl; (· exact pl_ok h0 h1), by simp, All2_ok hG h0 h1 n01, RAll2_ok hG h0 h1 n01⟩
theorem All3_ok (hG : Steady G) {m0 m1 m2 : Mv} (h0 : m0.ok 2) (h1 : m1.ok 2) (h2 : m2.ok 2) (n01 : ¬ (m0.bet m1).still) (n02 : ¬ (m0.bet m2).still) (n12 : ¬ (m1.bet m2).still) : Spec Tryz.prog G 37 [rowS RPo.cells [m0.raw, m1.raw, m2.raw]] (.tup [rowS RPl.cells [pl m0 m1, pl m0 m2, pl m1 m2], .lit .nilIface]) := by
  have cv := check_valid (G := G) hG (l := [m0.raw, m1.raw, m2.raw]) (by simp) (by simp) (by intro r hr; simp at hr; rcases hr with rfl | rfl | rfl; (· exact ⟨Mv.raw_ok h0, Mv.raw_valid h0⟩); (· exact ⟨Mv.raw_ok h1, Mv.raw_valid h1⟩); (· exact ⟨Mv.raw_ok h2, Mv.raw_valid h2⟩))
  exact Spec.of_run hG Tryz.func37 (ro := []) (m := 60) [.call cv, .call (Pole_ok hG h0 h1 n01), .call (Pole_ok hG h0 h2 n02), .call (Pole_ok hG h1 h2 n12)] (by kernel_rfl)
theorem All3_still (hG : Steady G) {m0 m1 m2 : Mv} (h0 : m0.ok 2) (h1 : m1.ok 2) (h2 : m2.ok 2) (hs : (m0.bet m1).still ∨ (m0.bet m2).still ∨ (m1.bet m2).still) : Spec Tryz.prog G 37 [rowS RPo.cells [m0.raw, m1.raw, m2.raw]] (.tup [rowS RPl.cells [], errno 8]) := by
  have cv := check_valid (G := G) hG (l := [m0.raw, m1.raw, m2.raw]) (by simp) (by simp) (by intro r hr; simp at hr; rcases hr with rfl | rfl | rfl; (· exact ⟨Mv.raw_ok h0, Mv.raw_valid h0⟩); (· exact ⟨Mv.raw_ok h1, Mv.raw_valid h1⟩); (· exact ⟨Mv.raw_ok h2, Mv.raw_valid h2⟩))
  by_cases n01 : (m0.bet m1).still
  · exact Spec.of_run hG Tryz.func37 (ro := []) (m := 60) [.call cv, .call (Pole_still hG h0 h1 n01)] (by kernel_rfl)
  by_cases n02 : (m0.bet m2).still
  · exact Spec.of_run hG Tryz.func37 (ro := []) (m := 60) [.call cv, .call (Pole_ok hG h0 h1 n01), .call (Pole_still hG h0 h2 n02)] (by kernel_rfl)
  by_cases n12 : (m1.bet m2).still
  · exact Spec.of_run hG Tryz.func37 (ro := []) (m := 60) [.call cv, .call (Pole_ok hG h0 h1 n01), .call (Pole_ok hG h0 h2 n02), .call (Pole_still hG h1 h2 n12)] (by kernel_rfl)
  exact absurd hs (by simp [n01, n02, n12])
theorem RAll3_ok (hG : Steady G) {m0 m1 m2 : Mv} (h0 : m0.ok 2) (h1 : m1.ok 2) (h2 : m2.ok 2) (n01 : ¬ (m0.bet m1).still) (n02 : ¬ (m0.bet m2).still) (n12 : ¬ (m1.bet m2).still) : Spec Tryz.prog G 40 [rowS RPo.cells [m0.raw, m1.raw, m2.raw]] (.tup [rowS RPl.cells [pl m0 m1, pl m0 m2, pl m1 m2], int 0]) := by
  exact Spec.of_run hG Tryz.func40 (ro := []) (m := 60) [.call (RPole_ok hG h0 h1 n01), .call (RPole_ok hG h0 h2 n02), .call (RPole_ok hG h1 h2 n12)] (by kernel_rfl)
theorem RAll3_still (hG : Steady G) {m0 m1 m2 : Mv} (h0 : m0.ok 2) (h1 : m1.ok 2) (h2 : m2.ok 2) (hs : (m0.bet m1).still ∨ (m0.bet m2).still ∨ (m1.bet m2).still) : Spec Tryz.prog G 40 [rowS RPo.cells [m0.raw, m1.raw, m2.raw]] (.tup [rowS RPl.cells [], int 8]) := by
  by_cases n01 : (m0.bet m1).still
  · exact Spec.of_run hG Tryz.func40 (ro := []) (m := 60) [.call (RPole_still hG h0 h1 n01)] (by kernel_rfl)
  by_cases n02 : (m0.bet m2).still
  · exact Spec.of_run hG Tryz.func40 (ro := []) (m := 60) [.call (RPole_ok hG h0 h1 n01), .call (RPole_still hG h0 h2 n02)] (by kernel_rfl)
  by_cases n12 : (m1.bet m2).still
  · exact Spec.of_run hG Tryz.func40 (ro := []) (m := 60) [.call (RPole_ok hG h0 h1 n01), .call (RPole_ok hG h0 h2 n02), .call (RPole_still hG h1 h2 n12)] (by kernel_rfl)
  exact absurd hs (by simp [n01, n02, n12])
theorem both3 (hG : Steady G) {m0 m1 m2 : Mv} (h0 : m0.ok 2) (h1 : m1.ok 2) (h2 : m2.ok 2) : AllBoth G [m0, m1, m2] := by
  by_cases hs : (m0.bet m1).still ∨ (m0.bet m2).still ∨ (m1.bet m2).still
  · exact .inr ⟨All3_still hG h0 h1 h2 hs, RAll3_still hG h0 h1 h2 hs⟩
  · simp only [not_or] at hs
    obtain ⟨n01, n02, n12⟩ := hs
    exact .inl ⟨_, by intro p hp; simp at hp; rcases hp with rfl | rfl | rfl; (· exact pl_ok h0 h1); (· exact pl_ok h0 h2); (· exact pl_ok h1 h2), by simp, All3_ok hG h0 h1 h2 n01 n02 n12, RAll3_ok hG h0 h1 h2 n01 n02 n12⟩
theorem All4_ok (hG : Steady G) {m0 m1 m2 m3 : Mv} (h0 : m0.ok 2) (h1 : m1.ok 2) (h2 : m2.ok 2) (h3 : m3.ok 2) (n01 : ¬ (m0.bet m1).still) (n02 : ¬ (m0.bet m2).still) (n03 : ¬ (m0.bet m3).still) (n12 : ¬ (m1.bet m2).still) (n13 : ¬ (m1.bet m3).still) (n23 : ¬ (m2.bet m3).still) : Spec Tryz.prog G 37 [rowS RPo.cells [m0.raw, m1.raw, m2.raw, m3.raw]] (.tup [rowS RPl.cells [pl m0 m1, pl m0 m2, pl m0 m3, pl m1 m2, pl m1 m3, pl m2 m3], .lit .nilIface]) := by
  have cv := check_valid (G := G) hG (l := [m0.raw, m1.raw, m2.raw, m3.raw]) (by simp) (by simp) (by intro r hr; simp at hr; rcases hr with rfl | rfl | rfl | rfl; (· exact ⟨Mv.raw_ok h0, Mv.raw_valid h0⟩); (· exact ⟨Mv.raw_ok h1, Mv.raw_valid h1⟩); (· exact ⟨Mv.raw_ok h2, Mv.raw_valid h2⟩); (· exact ⟨Mv.raw_ok h3, Mv.raw_valid h3⟩))
  exact Spec.of_run hG Tryz.func37 (ro := []) (m := 60) [.call cv, .call (Pole_ok hG h0 h1 n01), .call (Pole_ok hG h0 h2 n02), .call (Pole_ok hG h0 h3 n03), .call (Pole_ok hG h1 h2 n12), .call (Pole_ok hG h1 h3 n13), .call (Pole_ok hG h2 h3 n23)] (by kernel_rfl)
theorem All4_still (hG : Steady G) {m0 m1 m2 m3 : Mv} (h0 : m0.ok 2) (h1 : m1.ok 2) (h2 : m2.ok 2) (h3 : m3.ok 2) (hs : (m0.bet m1).still ∨ (m0.bet m2).still ∨ (m0.bet m3).still ∨ (m1.bet m2).still ∨ (m1.bet m3).still ∨ (m2.bet m3).still) : Spec Tryz.prog G 37 [rowS RPo.cells [m0.raw, m1.raw, m2.raw, m3.raw]] (.tup [rowS RPl.cells [], errno 8]) := by
  have cv := check_valid (G := G) hG (l := [m0.raw, m1.raw, m2.raw, m3.raw]) (by simp) (by simp) (by intro r hr; simp at hr; rcases hr with rfl | rfl | rfl | rfl; (· exact ⟨Mv.raw_ok h0, Mv.raw_valid h0⟩); (· exact ⟨Mv.raw_ok h1, Mv.raw_valid h1⟩); (· exact ⟨Mv.raw_ok h2, Mv.raw_valid h2⟩); (· exact ⟨Mv.raw_ok h3, Mv.raw_valid h3⟩))
  by_cases n01 : (m0.bet m1).still
  · exact Spec.of_run hG Tryz.func37 (ro := []) (m := 60) [.call cv, .call (Pole_still hG h0 h1 n01)] (by kernel_rfl)
  by_cases n02 : (m0.bet m2).still
  · exact Spec.of_run hG Tryz.func37 (ro := []) (m := 60) [.call cv, .call (Pole_ok hG h0 h1 n01), .call (Pole_still hG h0 h2 n02)] (by kernel_rfl)
  by_cases n03 : (m0.bet m3).still
  · exact Spec.of_run hG Tryz.func37 (ro := []) (m := 60) [.call cv, .call (Pole_ok hG h0 h1 n01), .call (Pole_ok hG h0 h2 n02), .call (Pole_still hG h0 h3 n03)] (by kernel_rfl)
  by_cases n12 : (m1.bet m2).still
  · exact Spec.of_run hG Tryz.func37 (ro := []) (m := 60) [.call cv, .call (Pole_ok hG h0 h1 n01), .call (Pole_ok hG h0 h2 n02), .call (Pole_ok hG h0 h3 n03), .call (Pole_still hG h1 h2 n12)] (by kernel_rfl)
  by_cases n13 : (m1.bet m3).still
  · exact Spec.of_run hG Tryz.func37 (ro := []) (m := 60) [.call cv, .call (Pole_ok hG h0 h1 n01), .call (Pole_ok hG h0 h2 n02), .call (Pole_ok hG h0 h3 n03), .call (Pole_ok hG h1 h2 n12), .call (Pole_still hG h1 h3 n13)] (by kernel_rfl)
  by_cases n23 : (m2.bet m3).still
  · exact Spec.of_run hG Tryz.func37 (ro := []) (m := 60) [.call cv, .call (Pole_ok hG h0 h1 n01), .call (Pole_ok hG h0 h2 n02), .call (Pole_ok hG h0 h3 n03), .call (Pole_ok hG h1 h2 n12), .call (Pole_ok hG h1 h3 n13), .call (Pole_still hG h2 h3 n23)] (by kernel_rfl)
  exact absurd hs (by simp [n01, n02, n03, n12, n13, n23])
theorem RAll4_ok (hG : Steady G) {m0 m1 m2 m3 : Mv} (h0 : m0.ok 2) (h1 : m1.ok 2) (h2 : m2.ok 2) (h3 : m3.ok 2) (n01 : ¬ (m0.bet m1).still) (n02 : ¬ (m0.bet m2).still) (n03 : ¬ (m0.bet m3).still) (n12 : ¬ (m1.bet m2).still) (n13 : ¬ (m1.bet m3).still) (n23 : ¬ (m2.bet m3).still) : Spec Tryz.prog G 40 [rowS RPo.cells [m0.raw, m1.raw, m2.raw, m3.raw]] (.tup [rowS RPl.cells [pl m0 m1, pl m0 m2, pl m0 m3, pl m1 m2, pl m1 m3, pl m2 m3], int 0]) := by
  exact Spec.of_run hG Tryz.func40 (ro := []) (m := 60) [.call (RPole_ok hG h0 h1 n01), .call (RPole_ok hG h0 h2 n02), .call (RPole_ok hG h0 h3 n03), .call (RPole_ok hG h1 h2 n12), .call (RPole_ok hG h1 h3 n13), .call (RPole_ok hG h2 h3 n23)] (by kernel_rfl)
theorem RAll4_still (hG : Steady G) {m0 m1 m2 m3 : Mv} (h0 : m0.ok 2) (h1 : m1.ok 2) (h2 : m2.ok 2) (h3 : m3.ok 2) (hs : (m0.bet m1).still ∨ (m0.bet m2).still ∨ (m0.bet m3).still ∨ (m1.bet m2).still ∨ (m1.bet m3).still ∨ (m2.bet m3).still) : Spec Tryz.prog G 40 [rowS RPo.cells [m0.raw, m1.raw, m2.raw, m3.raw]] (.tup [rowS RPl.cells [], int 8]) := by
  by_cases n01 : (m0.bet m1).still
  · exact Spec.of_run hG Tryz.func40 (ro := []) (m := 60) [.call (RPole_still hG h0 h1 n01)] (by kernel_rfl)
  by_cases n02 : (m0.bet m2).still
  · exact Spec.of_run hG Tryz.func40 (ro := []) (m := 60) [.call (RPole_ok hG h0 h1 n01), .call (RPole_still hG h0 h2 n02)] (by kernel_rfl)
  by_cases n03 : (m0.bet m3).still
  · exact Spec.of_run hG Tryz.func40 (ro := []) (m := 60) [.call (RPole_ok hG h0 h1 n01), .call (RPole_ok hG h0 h2 n02), .call (RPole_still hG h0 h3 n03)] (by kernel_rfl)
  by_cases n12 : (m1.bet m2).still
  · exact Spec.of_run hG Tryz.func40 (ro := []) (m := 60) [.call (RPole_ok hG h0 h1 n01), .call (RPole_ok hG h0 h2 n02), .call (RPole_ok hG h0 h3 n03), .call (RPole_still hG h1 h2 n12)] (by kernel_rfl)
  by_cases n13 : (m1.bet m3).still
  · exact Spec.of_run hG Tryz.func40 (ro := []) (m := 60) [.call (RPole_ok hG h0 h1 n01), .call (RPole_ok hG h0 h2 n02), .call (RPole_ok hG h0 h3 n03), .call (RPole_ok hG h1 h2 n12), .call (RPole_still hG h1 h3 n13)] (by kernel_rfl)
  by_cases n23 : (m2.bet m3).still
  · exact Spec.of_run hG Tryz.func40 (ro := []) (m := 60) [.call (RPole_ok hG h0 h1 n01), .call (RPole_ok hG h0 h2 n02), .call (RPole_ok hG h0 h3 n03), .call (RPole_ok hG h1 h2 n12), .call (RPole_ok hG h1 h3 n13), .call (RPole_still hG h2 h3 n23)] (by kernel_rfl)
  exact absurd hs (by simp [n01, n02, n03, n12, n13, n23])
theorem both4 (hG : Steady G) {m0 m1 m2 m3 : Mv} (h0 : m0.ok 2) (h1 : m1.ok 2) (h2 : m2.ok 2) (h3 : m3.ok 2) : AllBoth G [m0, m1, m2, m3] := by
  by_cases hs : (m0.bet m1).still ∨ (m0.bet m2).still ∨ (m0.bet m3).still ∨ (m1.bet m2).still ∨ (m1.bet m3).still ∨ (m2.bet m3).still
  · exact .inr ⟨All4_still hG h0 h1 h2 h3 hs, RAll4_still hG h0 h1 h2 h3 hs⟩
  · simp only [not_or] at hs
    obtain ⟨n01, n02, n03, n12, n13, n23⟩ := hs
    exact .inl ⟨_, by intro p hp; simp at hp; rcases hp with rfl | rfl | rfl | rfl | rfl | rfl; (· exact pl_ok h0 h1); (· exact pl_ok h0 h2); (· exact pl_ok h0 h3); (· exact pl_ok h1 h2); (· exact pl_ok h1 h3); (· exact pl_ok h2 h3), by simp, All4_ok hG h0 h1 h2 h3 n01 n02 n03 n12 n13 n23, RAll4_ok hG h0 h1 h2 h3 n01 n02 n03 n12 n13 n23⟩
theorem All5_ok (hG : Steady G) {m0 m1 m2 m3 m4 : Mv} (h0 : m0.ok 2) (h1 : m1.ok 2) (h2 : m2.ok 2) (h3 : m3.ok 2) (h4 : m4.ok 2) (n01 : ¬ (m0.bet m1).still) (n02 : ¬ (m0.bet m2).still) (n03 : ¬ (m0.bet m3).still) (n04 : ¬ (m0.bet m4).still) (n12 : ¬ (m1.bet m2).still) (n13 : ¬ (m1.bet m3).still) (n14 : ¬ (m1.bet m4).still) (n23 : ¬ (m2.bet m3).still) (n24 : ¬ (m2.bet m4).still) (n34 : ¬ (m3.bet m4).still) : Spec Tryz.prog G 37 [rowS RPo.cells [m0.raw, m1.raw, m2.raw, m3.raw, m4.raw]] (.tup [rowS RPl.cells [pl m0 m1, pl m0 m2, pl m0 m3, pl m0 m4, pl m1 m2, pl m1 m3, pl m1 m4, pl m2 m3, pl m2 m4, pl m3 m4], .lit .nilIface]) := by
  have cv := check_valid (G := G) hG (l := [m0.raw, m1.raw, m2.raw, m3.raw, m4.raw]) (by simp) (by simp) (by intro r hr; simp at hr; rcases hr with rfl | rfl | rfl | rfl | rfl; (· exact ⟨Mv.raw_ok h0, Mv.raw_valid h0⟩); (· exact ⟨Mv.raw_ok h1, Mv.raw_valid h1⟩); (· exact ⟨Mv.raw_ok h2, Mv.raw_valid h2⟩); (· exact ⟨Mv.raw_ok h3, Mv.raw_valid h3⟩); (· exact ⟨Mv.raw_ok h4, Mv.raw_valid h4⟩))
  exact Spec.of_run hG Tryz.func37 (ro := []) (m := 60) [.call cv, .call (Pole_ok hG h0 h1 n01), .call (Pole_ok hG h0 h2 n02), .call (Pole_ok hG h0 h3 n03), .call (Pole_ok hG h0 h4 n04), .call (Pole_ok hG h1 h2 n12), .call (Pole_ok hG h1 h3 n13), .call (Pole_ok hG h1 h4 n14), .call (Pole_ok hG h2 h3 n23), .call (Pole_ok hG h2 h4 n24), .call (Pole_ok hG h3 h4 n34)] (by kernel_rfl)
theorem All5_still (hG : Steady G) {m0 m1 m2 m3 m4 : Mv} (h0 : m0.ok 2) (h1 : m1.ok 2) (h2 : m2.ok 2) (h3 : m3.ok 2) (h4 : m4.ok 2) (hs : (m0.bet m1).still ∨ (m0.bet m2).still ∨ (m0.bet m3).still ∨ (m0.bet m4).still ∨ (m1.bet m2).still ∨ (m1.bet m3).still ∨ (m1.bet m4).still ∨ (m2.bet m3).still ∨ (m2.bet m4).still ∨ (m3.bet m4).still) : Spec Tryz.prog G 37 [rowS RPo.cells [m0.raw, m1.raw, m2.raw, m3.raw, m4.raw]] (.tup [rowS RPl.cells [], errno 8]) := by
  have cv := check_valid (G := G) hG (l := [m0.raw, m1.raw, m2.raw, m3.raw, m4.raw]) (by simp) (by simp) (by intro r hr; simp at hr; rcases hr with rfl | rfl | rfl | rfl | rfl; (· exact ⟨Mv.raw_ok h0, Mv.raw_valid h0⟩); (· exact ⟨Mv.raw_ok h1, Mv.raw_valid h1⟩); (· exact ⟨Mv.raw_ok h2, Mv.raw_valid h2⟩); (· exact ⟨Mv.raw_ok h3, Mv.raw_valid h3⟩); (· exact ⟨Mv.raw_ok h4, Mv.raw_valid h4⟩))
  by_cases n01 : (m0.bet m1).still
  · exact Spec.of_run hG Tryz.func37 (ro := []) (m := 60) [.call cv, .call (Pole_still hG h0 h1 n01)] (by kernel_rfl)
  by_cases n02 : (m0.bet m2).still
  · exact Spec.of_run hG Tryz.func37 (ro := []) (m := 60) [.call cv, .call (Pole_ok hG h0 h1 n01), .call (Pole_still hG h0 h2 n02)] (by kernel_rfl)
  by_cases n03 : (m0.bet m3).still
  · exact Spec.of_run hG Tryz.func37 (ro := []) (m := 60) [.call cv, .call (Pole_ok hG h0 h1 n01), .call (Pole_ok hG h0 h2 n02), .call (Pole_still hG h0 h3 n03)] (by kernel_rfl)
  by_cases n04 : (m0.bet m4).still
  · exact Spec.of_run hG Tryz.func37 (ro := []) (m := 60) [.call cv, .call (Pole_ok hG h0 h1 n01), .call (Pole_ok hG h0 h2 n02), .call (Pole_ok hG h0 h3 n03), .call (Pole_still hG h0 h4 n04)] (by kernel_rfl)
  by_cases n12 : (m1.bet m2).still
  · exact Spec.of_run hG Tryz.func37 (ro := []) (m := 60) [.call cv, .call (Pole_ok hG h0 h1 n01), .call (Pole_ok hG h0 h2 n02), .call (Pole_ok hG h0 h3 n03), .call (Pole_ok hG h0 h4 n04), .call (Pole_still hG h1 h2 n12)] (by kernel_rfl)
  by_cases n13 : (m1.bet m3).still
  · exact Spec.of_run hG Tryz.func37 (ro := []) (m := 60) [.call cv, .call (Pole_ok hG h0 h1 n01), .call (Pole_ok hG h0 h2 n02), .call (Pole_ok hG h0 h3 n03), .call (Pole_ok hG h0 h4 n04), .call (Pole_ok hG h1 h2 n12), .call (Pole_still hG h1 h3 n13)] (by kernel_rfl)
  by_cases n14 : (m1.bet m4).still
  · exact Spec.of_run hG Tryz.func37 (ro := []) (m := 60) [.call cv, .call (Pole_ok hG h0 h1 n01), .call (Pole_ok hG h0 h2 n02), .call (Pole_ok hG h0 h3 n03), .call (Pole_ok hG h0 h4 n04), .call (Pole_ok hG h1 h2 n12), .call (Pole_ok hG h1 h3 n13), .call (Pole_still hG h1 h4 n14)] (by kernel_rfl)
  by_cases n23 : (m2.bet m3).still
  · exact Spec.of_run hG Tryz.func37 (ro := []) (m := 60) [.call cv, .call (Pole_ok hG h0 h1 n01), .call (Pole_ok hG h0 h2 n02), .call (Pole_ok hG h0 h3 n03), .call (Pole_ok hG h0 h4 n04), .call (Pole_ok hG h1 h2 n12), .call (Pole_ok hG h1 h3 n13), .call (Pole_ok hG h1 h4 n14), .call (Pole_still hG h2 h3 n23)] (by kernel_rfl)
  by_cases n24 : (m2.bet m4).still
  · exact Spec.of_run hG Tryz.func37 (ro := []) (m := 60) [.call cv, .call (Pole_ok hG h0 h1 n01), .call (Pole_ok hG h0 h2 n02), .call (Pole_ok hG h0 h3 n03), .call (Pole_ok hG h0 h4 n04), .call (Pole_ok hG h1 h2 n12), .call (Pole_ok hG h1 h3 n13), .call (Pole_ok hG h1 h4 n14), .call (Pole_ok hG h2 h3 n23), .call (Pole_still hG h2 h4 n24)] (by kernel_rfl)
  by_cases n34 : (m3.bet m4).still
  · exact Spec.of_run hG Tryz.func37 (ro := []) (m := 60) [.call cv, .call (Pole_ok hG h0 h1 n01), .call (Pole_ok hG h0 h2 n02), .call (Pole_ok hG h0 h3 n03), .call (Pole_ok hG h0 h4 n04), .call (Pole_ok hG h1 h2 n12), .call (Pole_ok hG h1 h3 n13), .call (Pole_ok hG h1 h4 n14), .call (Pole_ok hG h2 h3 n23), .call (Pole_ok hG h2 h4 n24), .call (Pole_still hG h3 h4 n34)] (by kernel_rfl)
  exact absurd hs (by simp [n01, n02, n03, n04, n12, n13, n14, n23, n24, n34])
theorem RAll5_ok (hG : Steady G) {m0 m1 m2 m3 m4 : Mv} (h0 : m0.ok 2) (h1 : m1.ok 2) (h2 : m2.ok 2) (h3 : m3.ok 2) (h4 : m4.ok 2) (n01 : ¬ (m0.bet m1).still) (n02 : ¬ (m0.bet m2).still) (n03 : ¬ (m0.bet m3).still) (n04 : ¬ (m0.bet m4).still) (n12 : ¬ (m1.bet m2).still) (n13 : ¬ (m1.bet m3).still) (n14 : ¬ (m1.bet m4).still) (n23 : ¬ (m2.bet m3).still) (n24 : ¬ (m2.bet m4).still) (n34 : ¬ (m3.bet m4).still) : Spec Tryz.prog G 40 [rowS RPo.cells [m0.raw, m1.raw, m2.raw, m3.raw, m4.raw]] (.tup [rowS RPl.cells [pl m0 m1, pl m0 m2, pl m0 m3, pl m0 m4, pl m1 m2, pl m1 m3, pl m1 m4, pl m2 m3, pl m2 m4, pl m3 m4], int 0]) := by
  exact Spec.of_run hG Tryz.func40 (ro := []) (m := 60) [.call (RPole_ok hG h0 h1 n01), .call (RPole_ok hG h0 h2 n02), .call (RPole_ok hG h0 h3 n03), .call (RPole_ok hG h0 h4 n04), .call (RPole_ok hG h1 h2 n12), .call (RPole_ok hG h1 h3 n13), .call (RPole_ok hG h1 h4 n14), .call (RPole_ok hG h2 h3 n23), .call (RPole_ok hG h2 h4 n24), .call (RPole_ok hG h3 h4 n34)] (by kernel_rfl)
theorem RAll5_still (hG : Steady G) {m0 m1 m2 m3 m4 : Mv} (h0 : m0.ok 2) (h1 : m1.ok 2) (h2 : m2.ok 2) (h3 : m3.ok 2) (h4 : m4.ok 2) (hs : (m0.bet m1).still ∨ (m0.bet m2).still ∨ (m0.bet m3).still ∨ (m0.bet m4).still ∨ (m1.bet m2).still ∨ (m1.bet m3).still ∨ (m1.bet m4).still ∨ (m2.bet m3).still ∨ (m2.bet m4).still ∨ (m3.bet m4).still) : Spec Tryz.prog G 40 [rowS RPo.cells [m0.raw, m1.raw, m2.raw, m3.raw, m4.raw]] (.tup [rowS RPl.cells [], int 8]) := by
  by_cases n01 : (m0.bet m1).still
  · exact Spec.of_run hG Tryz.func40 (ro := []) (m := 60) [.call (RPole_still hG h0 h1 n01)] (by kernel_rfl)
  by_cases n02 : (m0.bet m2).still
  · exact Spec.of_run hG Tryz.func40 (ro := []) (m := 60) [.call (RPole_ok hG h0 h1 n01), .call (RPole_still hG h0 h2 n02)] (by kernel_rfl)
  by_cases n03 : (m0.bet m3).still
  · exact Spec.of_run hG Tryz.func40 (ro := []) (m := 60) [.call (RPole_ok hG h0 h1 n01), .call (RPole_ok hG h0 h2 n02), .call (RPole_still hG h0 h3 n03)] (by kernel_rfl)
  by_cases n04 : (m0.bet m4).still
  · exact Spec.of_run hG Tryz.func40 (ro := []) (m := 60) [.call (RPole_ok hG h0 h1 n01), .call (RPole_ok hG h0 h2 n02), .call (RPole_ok hG h0 h3 n03), .call (RPole_still hG h0 h4 n04)] (by kernel_rfl)
  by_cases n12 : (m1.bet m2).still
  · exact Spec.of_run hG Tryz.func40 (ro := []) (m := 60) [.call (RPole_ok hG h0 h1 n01), .call (RPole_ok hG h0 h2 n02), .call (RPole_ok hG h0 h3 n03), .call (RPole_ok hG h0 h4 n04), .call (RPole_still hG h1 h2 n12)] (by kernel_rfl)
  by_cases n13 : (m1.bet m3).still
  · exact Spec.of_run hG Tryz.func40 (ro := []) (m := 60) [.call (RPole_ok hG h0 h1 n01), .call (RPole_ok hG h0 h2 n02), .call (RPole_ok hG h0 h3 n03), .call (RPole_ok hG h0 h4 n04), .call (RPole_ok hG h1 h2 n12), .call (RPole_still hG h1 h3 n13)] (by kernel_rfl)
  by_cases n14 : (m1.bet m4).still
  · exact Spec.of_run hG Tryz.func40 (ro := []) (m := 60) [.call (RPole_ok hG h0 h1 n01), .call (RPole_ok hG h0 h2 n02), .call (RPole_ok hG h0 h3 n03), .call (RPole_ok hG h0 h4 n04), .call (RPole_ok hG h1 h2 n12), .call (RPole_ok hG h1 h3 n13), .call (RPole_still hG h1 h4 n14)] (by kernel_rfl)
  by_cases n23 : (m2.bet m3).still
  · exact Spec.of_run hG Tryz.func40 (ro := []) (m := 60) [.call (RPole_ok hG h0 h1 n01), .call (RPole_ok hG h0 h2 n02), .call (RPole_ok hG h0 h3 n03), .call (RPole_ok hG h0 h4 n04), .call (RPole_ok hG h1 h2 n12), .call (RPole_ok hG h1 h3 n13), .call (RPole_ok hG h1 h4 n14), .call (RPole_still hG h2 h3 n23)] (by kernel_rfl)
  by_cases n24 : (m2.bet m4).still
  · exact Spec.of_run hG Tryz.func40 (ro := []) (m := 60) [.call (RPole_ok hG h0 h1 n01), .call (RPole_ok hG h0 h2 n02), .call (RPole_ok hG h0 h3 n03), .call (RPole_ok hG h0 h4 n04), .call (RPole_ok hG h1 h2 n12), .call (RPole_ok hG h1 h3 n13), .call (RPole_ok hG h1 h4 n14), .call (RPole_ok hG h2 h3 n23), .call (RPole_still hG h2 h4 n24)] (by kernel_rfl)
  by_cases n34 : (m3.bet m4).still
  · exact Spec.of_run hG Tryz.func40 (ro := []) (m := 60) [.call (RPole_ok hG h0 h1 n01), .call (RPole_ok hG h0 h2 n02), .call (RPole_ok hG h0 h3 n03), .call (RPole_ok hG h0 h4 n04), .call (RPole_ok hG h1 h2 n12), .call (RPole_ok hG h1 h3 n13), .call (RPole_ok hG h1 h4 n14), .call (RPole_ok hG h2 h3 n23), .call (RPole_ok hG h2 h4 n24), .call (RPole_still hG h3 h4 n34)] (by kernel_rfl)
  exact absurd hs (by simp [n01, n02, n03, n04, n12, n13, n14, n23, n24, n34])
theorem both5 (hG : Steady G) {m0 m1 m2 m3 m4 : Mv} (h0 : m0.ok 2) (h1 : m1.ok 2) (h2 : m2.ok 2) (h3 : m3.ok 2) (h4 : m4.ok 2) : AllBoth G [m0, m1, m2, m3, m4] := by
  by_cases hs : (m0.bet m1).still ∨ (m0.bet m2).still ∨ (m0.bet m3).still ∨ (m0.bet m4).still ∨ (m1.bet m2).still ∨ (m1.bet m3).still ∨ (m1.bet m4).still ∨ (m2.bet m3).still ∨ (m2.bet m4).still ∨ (m3.bet m4).still
  · exact .inr ⟨All5_still hG h0 h1 h2 h3 h4 hs, RAll5_still hG h0 h1 h2 h3 h4 hs⟩
  · simp only [not_or] at hs
    obtain ⟨n01, n02, n03, n04, n12, n13, n14, n23, n24, n34⟩ := hs
    exact .inl ⟨_, by intro p hp; simp at hp; rcases hp with rfl | rfl | rfl | rfl | rfl | rfl | rfl | rfl | rfl | rfl; (· exact pl_ok h0 h1); (· exact pl_ok h0 h2); (· exact pl_ok h0 h3); (· exact pl_ok h0 h4); (· exact pl_ok h1 h2); (· exact pl_ok h1 h3); (· exact pl_ok h1 h4); (· exact pl_ok h2 h3); (· exact pl_ok h2 h4); (· exact pl_ok h3 h4), by simp, All5_ok hG h0 h1 h2 h3 h4 n01 n02 n03 n04 n12 n13 n14 n23 n24 n34, RAll5_ok hG h0 h1 h2 h3 h4 n01 n02 n03 n04 n12 n13 n14 n23 n24 n34⟩
end Lw
