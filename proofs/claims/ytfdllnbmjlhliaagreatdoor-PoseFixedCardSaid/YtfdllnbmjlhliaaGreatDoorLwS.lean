/- The walks of the steps of a long division that write in place. No condition. -/
import Derived.Test.YtfdllnbmjlhliaaGreatDoorLwR
namespace Lw
open Go Go.RowKit Go.Proofs

variable {G : World → Prop}

/-! ### remove -/
theorem ptr_off (b j i : Nat) : D.ptr b (j + (Int.ofNat i).toNat * 1) = .ptr b (j + i) := by simp
/-- Cells of which some, from j on, are the digits of Z. -/
def parF (F : Nat → Nat) (j Z r idx : Nat) : Nat := if j ≤ idx ∧ idx < j + r then Z / BP (idx - j) % 4294967296 else F idx
theorem parF_zero (F : Nat → Nat) (j Z : Nat) : parF F j Z 0 = F := by funext idx; unfold parF; rw [if_neg (by omega)]
theorem parF_next {N : Nat} {F : Nat → Nat} {j Z r : Nat} (h : j + r < N) : splice (cel N (parF F j Z r)) (j + r) [u32 (Z / BP r % 4294967296)] = cel N (parF F j Z (r + 1)) := by
  rw [splice_cel _ _ h]
  refine cel_congr fun i _ => ?_
  unfold parF
  by_cases hi : i = j + r
  · subst hi; rw [if_pos rfl, if_pos (by omega), show j + r - j = r by omega]
  · rw [if_neg hi]
    by_cases h2 : j ≤ i ∧ i < j + r
    · rw [if_pos h2, if_pos (by omega)]
    · rw [if_neg h2, if_neg (by omega)]
theorem parF_at {F : Nat → Nat} {j Z r : Nat} : parF F j Z r (j + r) = F (j + r) := by unfold parF; rw [if_neg (by omega)]

theorem cSub_add {W b k r : Nat} (h : r ≤ k) : cSub (W + BP k) b r = cSub W b r := by
  unfold cSub
  have e : (W + BP k) % BP r = W % BP r := by
    rw [show k = (k - r) + r by omega, BP_add, Nat.mul_comm, Nat.add_mul_mod_self_left]
  rw [e]
theorem dig_add {W k r : Nat} (h : r < k) : (W + BP k) / BP r % 4294967296 = W / BP r % 4294967296 := by
  have e : BP k = (BP (k - r - 1) * 4294967296) * BP r := by
    conv => lhs; rw [show k = (r + (k - r - 1)) + 1 by omega, BP_succ, BP_add]
    simp only [Nat.mul_assoc, Nat.mul_comm]
  rw [e, Nat.add_mul_div_right _ _ (BP_pos r)]; omega

structure RemIn where
  N : Nat
  F : Nat → Nat
  j : Nat
  k : Nat
  cap : Nat
  qs : List D
  v : List Nat
  n : Nat
  W : Nat
def RemIn.ok (p : RemIn) : Prop := Dig p.v ∧ p.n < 4294967296 ∧ p.j + p.k ≤ p.N ∧ p.N < 2 ^ 60 ∧ (∀ i, i < p.k → p.F (p.j + i) = p.W / BP i % 4294967296) ∧ p.n * val p.v ≤ BP p.k ∧ p.W < BP p.k
def RemIn.Z (p : RemIn) : Nat := p.W + BP p.k - p.n * val p.v
def remInv (p : RemIn) (r : Nat) : St :=
  lay 46 [(0, .slc 0 p.j p.k p.cap), (1, rowW p.v), (2, u64 p.n), (7, u64 (cMul 0 p.n (val p.v) r)), (8, u64 (cSub p.W (p.n * val p.v) r)), (12, nat p.k), (13, nat r)] [(0, cel p.N (parF p.F p.j p.Z r)), (1, p.qs)]
theorem rem_round (hG : Steady G) {p : RemIn} (hp : p.ok) {r : Nat} (hr : r < p.k) :
    Goes Tryz.prog G 2 (loopOf Tryz.f150 0) (remInv p r) .normal (remInv p (r + 1)) := by
  obtain ⟨hv, hn, hjk, hN, hF, hb, hW⟩ := hp
  have h60 : (2:Nat) ^ 60 = 1152921504606846976 := by decide
  have hjr : p.j + r < p.N := by omega
  have hy := hv.getD r
  have hs := cMul_step 0 p.n (val p.v) r
  have hd := cMul_dig 0 p.n (val p.v) r
  rw [← getD_val hv, Nat.zero_div, Nat.zero_mod] at hs hd
  simp only [Nat.add_zero] at hs hd
  rw [Nat.zero_add] at hd
  have hc := cMul_lt 0 (val p.v) r hn
  have hny := mul_lt64 hn hy
  have hS := cSub_step p.W (p.n * val p.v) r
  have hD := cSub_dig (a := p.W + BP p.k) (b := p.n * val p.v) (by omega) r
  rw [dig_add hr, cSub_add (Nat.le_of_lt hr)] at hD
  have hcs := cSub_le p.W (p.n * val p.v) r
  have hw : p.W / BP r % 4294967296 < 4294967296 := Nat.mod_lt _ (by omega)
  have hnv : p.n * val p.v / BP r % 4294967296 < 4294967296 := Nat.mod_lt _ (by omega)
  have hcell : parF p.F p.j p.Z r (p.j + r) = p.W / BP r % 4294967296 := by rw [parF_at, hF r hr]
  have e : remInv p (r + 1) = lay 46 [(0, .slc 0 p.j p.k p.cap), (1, rowW p.v), (2, u64 p.n), (7, u64 (cMul 0 p.n (val p.v) (r + 1))), (8, u64 (cSub p.W (p.n * val p.v) (r + 1))), (12, nat p.k), (13, nat (r + 1))]
      [(0, splice (cel p.N (parF p.F p.j p.Z r)) (p.j + r) [u32 (p.Z / BP r % 4294967296)]), (1, p.qs)] := by
    rw [parF_next hjr]; rfl
  rw [e]
  exact Goes.of_run hG (ro := []) (m := 30) (lay_len ..)
    [.eq 14 (eqB (lt_true hr)), .call (word_spec hG p.v hv r), .eq 21 (eq64 (wrap_mul (x := p.n) (y := p.v.getD r 0) (by omega))), .eq 22 (eq64 (wrap_add (x := cMul 0 p.n (val p.v) r) (y := p.n * p.v.getD r 0) (by omega))),
     .prop (ix_need hr), .eq 25 (ptr_off 0 p.j r), .prop (p := 0 < 1 ∧ p.j + r + 1 ≤ (cel p.N (parF p.F p.j p.Z r)).length) (by rw [cel_len]; omega),
     .eq 26 (d := ((cel p.N (parF p.F p.j p.Z r)).drop (p.j + r)).headD .any) (d' := u32 (p.W / BP r % 4294967296)) (by rw [cel_getD hjr, hcell]), .eq 27 (eq64 (conv64 hw)),
     .eq 29 (eq32 (x := IntKind.wrap .u32 (Int.ofNat (cMul 0 p.n (val p.v) r + p.n * p.v.getD r 0))) (y := Int.ofNat (p.n * val p.v / BP r % 4294967296)) (by rw [conv32, hd])), .eq 30 (eq64 (conv64 hnv)),
     .eq 31 (eq64 (wrap_sub (x := p.W / BP r % 4294967296) (y := p.n * val p.v / BP r % 4294967296) (by omega))),
     .eq 33 (eq64 (wrap_sub (x := subw (p.W / BP r % 4294967296) (p.n * val p.v / BP r % 4294967296)) (y := cSub p.W (p.n * val p.v) r) (by omega))),
     .eq 37 (eq32 (x := IntKind.wrap .u32 (Int.ofNat (subw (subw (p.W / BP r % 4294967296) (p.n * val p.v / BP r % 4294967296)) (cSub p.W (p.n * val p.v) r)))) (y := Int.ofNat (p.Z / BP r % 4294967296)) (by
        rw [show Int.ofNat (p.Z / BP r % 4294967296) = (((p.W + BP p.k - p.n * val p.v) / BP r % 4294967296 : Nat) : Int) from rfl, ← hD, ← subw_lo hw hnv hcs]; exact wrap32)),
     .prop (ix_need hr), .eq 38 (ptr_off 0 p.j r), .prop (p := p.j + r + 1 ≤ (cel p.N (parF p.F p.j p.Z r)).length) (by rw [cel_len]; omega),
     .eq 40 (eq64 (x := (Int.ofNat (subw (subw (p.W / BP r % 4294967296) (p.n * val p.v / BP r % 4294967296)) (cSub p.W (p.n * val p.v) r))).fdiv (2 ^ min (Int.toNat 63) (IntKind.bits .u64))) (y := Int.ofNat (cSub p.W (p.n * val p.v) (r + 1)))
        (by rw [shr63, subw_hi hw hnv hcs, ← hS])),
     .eq 42 (eq64 (x := (Int.ofNat (cMul 0 p.n (val p.v) r + p.n * p.v.getD r 0)).fdiv (2 ^ min (Int.toNat 32) (IntKind.bits .u64))) (y := Int.ofNat (cMul 0 p.n (val p.v) (r + 1))) (by rw [shr32, hs])),
     .eq 43 (eqS (nat_succ (i := r) (by omega)))] (by kernel_rfl)
theorem rem_last (hG : Steady G) {p : RemIn} : Goes Tryz.prog G 2 (loopOf Tryz.f150 0) (remInv p p.k) (.exit 0) (remInv p p.k) :=
  Goes.of_run hG (ro := []) (m := 30) (lay_len ..) [.eq 14 (eqB (lt_false (Nat.le_refl p.k)))] (by kernel_rfl)
theorem rem_loop (hG : Steady G) {p : RemIn} (hp : p.ok) :
    Abs Tryz.prog G 46 2 (.loop (loopOf Tryz.f150 0))
      (lay 46 [(0, .slc 0 p.j p.k p.cap), (1, rowW p.v), (2, u64 p.n), (7, u64 0), (8, u64 0), (12, nat p.k), (13, nat 0)] [(0, cel p.N p.F), (1, p.qs)]) (.exit 0) (remInv p p.k) := by
  have h := Abs.count (remInv p) p.k (fun k => lay_len _ _ _) (by simp) (fun i hi => rem_round hG hp hi) (rem_last hG)
  have e : remInv p 0 = lay 46 [(0, .slc 0 p.j p.k p.cap), (1, rowW p.v), (2, u64 p.n), (7, u64 0), (8, u64 0), (12, nat p.k), (13, nat 0)] [(0, cel p.N p.F), (1, p.qs)] := by
    unfold remInv; rw [parF_zero, cMul_zero, cSub_zero]
  rw [e] at h; exact h
theorem rem_says {p : RemIn} (hp : p.ok) (hlt : p.n * val p.v < BP p.k) : (Int.ofNat (cSub p.W (p.n * val p.v) p.k) == 1) = decide (p.W < p.n * val p.v) := by
  obtain ⟨-, -, -, -, -, -, hW⟩ := hp
  unfold cSub
  rw [Nat.mod_eq_of_lt hW, Nat.mod_eq_of_lt hlt]
  split
  · rename_i h; simp [h]
  · rename_i h; simp [h]

/-! ### back -/
structure BackIn where
  N : Nat
  F : Nat → Nat
  j : Nat
  k : Nat
  cap : Nat
  qs : List D
  v : List Nat
  Z : Nat
def BackIn.ok (p : BackIn) : Prop := Dig p.v ∧ p.j + p.k ≤ p.N ∧ p.N < 2 ^ 60 ∧ (∀ i, i < p.k → p.F (p.j + i) = p.Z / BP i % 4294967296)
def backInv (p : BackIn) (r : Nat) : St :=
  lay 30 [(0, .slc 0 p.j p.k p.cap), (1, rowW p.v), (4, u64 (cAdd p.Z (val p.v) r)), (7, nat p.k), (8, nat r)] [(0, cel p.N (parF p.F p.j (p.Z + val p.v) r)), (1, p.qs)]
theorem back_round (hG : Steady G) {p : BackIn} (hp : p.ok) {r : Nat} (hr : r < p.k) :
    Goes Tryz.prog G 2 (loopOf Tryz.f151 0) (backInv p r) .normal (backInv p (r + 1)) := by
  obtain ⟨hv, hjk, hN, hF⟩ := hp
  have h60 : (2:Nat) ^ 60 = 1152921504606846976 := by decide
  have hjr : p.j + r < p.N := by omega
  have hy := hv.getD r
  have hs := cAdd_step p.Z (val p.v) r
  have hd := cAdd_dig p.Z (val p.v) r
  rw [← getD_val hv] at hs hd
  have hc := cAdd_le p.Z (val p.v) r
  have hw : p.Z / BP r % 4294967296 < 4294967296 := Nat.mod_lt _ (by omega)
  have hcell : parF p.F p.j (p.Z + val p.v) r (p.j + r) = p.Z / BP r % 4294967296 := by rw [parF_at, hF r hr]
  have e : backInv p (r + 1) = lay 30 [(0, .slc 0 p.j p.k p.cap), (1, rowW p.v), (4, u64 (cAdd p.Z (val p.v) (r + 1))), (7, nat p.k), (8, nat (r + 1))]
      [(0, splice (cel p.N (parF p.F p.j (p.Z + val p.v) r)) (p.j + r) [u32 ((p.Z + val p.v) / BP r % 4294967296)]), (1, p.qs)] := by
    rw [parF_next hjr]; rfl
  rw [e]
  exact Goes.of_run hG (ro := []) (m := 30) (lay_len ..)
    [.eq 9 (eqB (lt_true hr)), .prop (ix_need hr), .eq 14 (ptr_off 0 p.j r), .prop (p := 0 < 1 ∧ p.j + r + 1 ≤ (cel p.N (parF p.F p.j (p.Z + val p.v) r)).length) (by rw [cel_len]; omega),
     .eq 15 (d := ((cel p.N (parF p.F p.j (p.Z + val p.v) r)).drop (p.j + r)).headD .any) (d' := u32 (p.Z / BP r % 4294967296)) (by rw [cel_getD hjr, hcell]), .eq 16 (eq64 (conv64 hw)), .call (word_spec hG p.v hv r),
     .eq 20 (eq64 (wrap_add (x := p.Z / BP r % 4294967296) (y := p.v.getD r 0) (by omega))), .eq 21 (eq64 (wrap_add (x := cAdd p.Z (val p.v) r) (y := p.Z / BP r % 4294967296 + p.v.getD r 0) (by omega))),
     .eq 25 (eq32 (x := IntKind.wrap .u32 (Int.ofNat (cAdd p.Z (val p.v) r + (p.Z / BP r % 4294967296 + p.v.getD r 0)))) (y := Int.ofNat ((p.Z + val p.v) / BP r % 4294967296)) (by rw [conv32, hd])),
     .prop (ix_need hr), .eq 26 (ptr_off 0 p.j r), .prop (p := p.j + r + 1 ≤ (cel p.N (parF p.F p.j (p.Z + val p.v) r)).length) (by rw [cel_len]; omega),
     .eq 28 (eq64 (x := (Int.ofNat (cAdd p.Z (val p.v) r + (p.Z / BP r % 4294967296 + p.v.getD r 0))).fdiv (2 ^ min (Int.toNat 32) (IntKind.bits .u64))) (y := Int.ofNat (cAdd p.Z (val p.v) (r + 1))) (by rw [shr32, hs])),
     .eq 29 (eqS (nat_succ (i := r) (by omega)))] (by kernel_rfl)
theorem back_last (hG : Steady G) {p : BackIn} : Goes Tryz.prog G 2 (loopOf Tryz.f151 0) (backInv p p.k) (.exit 0) (backInv p p.k) :=
  Goes.of_run hG (ro := []) (m := 30) (lay_len ..) [.eq 9 (eqB (lt_false (Nat.le_refl p.k)))] (by kernel_rfl)
theorem back_loop (hG : Steady G) {p : BackIn} (hp : p.ok) :
    Abs Tryz.prog G 30 2 (.loop (loopOf Tryz.f151 0))
      (lay 30 [(0, .slc 0 p.j p.k p.cap), (1, rowW p.v), (4, u64 0), (7, nat p.k), (8, nat 0)] [(0, cel p.N p.F), (1, p.qs)]) (.exit 0) (backInv p p.k) := by
  have h := Abs.count (backInv p) p.k (fun k => lay_len _ _ _) (by simp) (fun i hi => back_round hG hp hi) (back_last hG)
  have e : backInv p 0 = lay 30 [(0, .slc 0 p.j p.k p.cap), (1, rowW p.v), (4, u64 0), (7, nat p.k), (8, nat 0)] [(0, cel p.N p.F), (1, p.qs)] := by
    unfold backInv; rw [parF_zero, cAdd_zero]
  rw [e] at h; exact h
end Lw
