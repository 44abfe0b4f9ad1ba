/- The contracts of the reference's integers: roots, numbers, bits. No condition. -/
import Derived.Test.YtcdhaaadohmcoaaGreatDoorLwZi
namespace Lw
open Go Go.RowKit Go.Proofs

variable {G : World → Prop}

/-! ### Root, bit by bit -/
def rowR (r : Nat) : D := if r = 0 then .row 0 true [] else rowW (words r)
theorem rowR_pos {r : Nat} (h : 0 < r) : rowR r = rowW (words r) := by unfold rowR; rw [if_neg (by omega)]
theorem rowR_zero : rowR 0 = .row 0 true [] := rfl
def rrtInv (m : Nat) (p : Nat × Nat) : St := lay 44 [(2, .ptr 0 0), (4, rowW (words m)), (5, rowR p.2), (6, int (cnt p.1))] [(0, zeroW)]
theorem cmp_le_true {a b : Nat} (h : a ≤ b) : decide (cmpI a b ≤ 0) = true := by
  unfold cmpI
  split
  · rfl
  · rw [if_neg (by omega)]; rfl
theorem cmp_le_false {a b : Nat} (h : b < a) : decide (cmpI a b ≤ 0) = false := by
  unfold cmpI
  rw [if_neg (by omega), if_pos h]; rfl
theorem rrt_round (hG : Steady G) {m i r : Nat} (hm : (words m).length ≤ 2 ^ 30) (hi : i ≤ bl m) (hr : r ≤ m) (hbl : bl m ≤ 32 * (words m).length) :
    ((r + 2 ^ i) * (r + 2 ^ i) ≤ m → Goes Tryz.prog G 0 (loopOf Tryz.f82 0) (rrtInv m (i + 1, r)) .normal (rrtInv m (i, r + 2 ^ i))) ∧
    (m < (r + 2 ^ i) * (r + 2 ^ i) → Goes Tryz.prog G 0 (loopOf Tryz.f82 0) (rrtInv m (i + 1, r)) .normal (rrtInv m (i, r))) := by
  have h30 : (2:Nat) ^ 30 = 1073741824 := by decide
  have h36 : (2:Nat) ^ 36 = 68719476736 := by decide
  have h40 : (2:Nat) ^ 40 = 1099511627776 := by decide
  have h60 : (2:Nat) ^ 60 = 1152921504606846976 := by decide
  have l1 := words_pow_len i
  have l2 := len_mono hr
  have l3 := len_add (a := r) (b := 2 ^ i)
  have l4 := len_mul (a := r + 2 ^ i) (b := r + 2 ^ i)
  have hp : 0 < 2 ^ i := Nat.two_pow_pos i
  have cp := rplus_words (G := G) hG (a := r) (b := 2 ^ i) (by omega) (by omega)
  rw [← pow_row] at cp
  have ct := rtimes_words (G := G) hG (a := r + 2 ^ i) (b := r + 2 ^ i) (by omega) (by omega)
  have cc := rcmp_words (G := G) hG (a := (r + 2 ^ i) * (r + 2 ^ i)) (b := m) (by omega) (by omega)
  have g1 : decide (Int.ofNat i ≥ 0) = true := by simp
  have n1 : (0:Int) ≤ Int.ofNat (i % 32) := by simp only [Int.ofNat_eq_natCast]; omega
  have n2 : i / 32 + 1 ≤ (List.replicate (i / 32 + 1) (u32 0)).length := by simp
  have q1 : IntKind.wrap .i64 ((Int.ofNat i).tdiv (Int.ofNat 32)) = Int.ofNat (i / 32) := nat_quo (by omega)
  have q2 : IntKind.wrap .i64 (Int.ofNat (i / 32) + 1) = Int.ofNat (i / 32 + 1) := nat_succ (by omega)
  have mk := make_need (N := i / 32 + 1) (by omega)
  have s1 := shl_one (k := i % 32) (by omega)
  have ix : (0:Int) ≤ Int.ofNat (i / 32) ∧ Int.ofNat (i / 32) < ((i / 32 + 1 : Nat) : Int) := ix_need (by omega)
  have ct2 : IntKind.wrap .i64 (Int.ofNat i - 1) = cnt i := cnt_top (by omega)
  constructor
  · intro hle
    have hx : rowR (r + 2 ^ i) = rowW (words (r + 2 ^ i)) := rowR_pos (by omega)
    unfold rrtInv
    rw [hx]
    rcases Nat.eq_zero_or_pos r with h | h
    · subst h
      rw [rowR_zero]
      exact Goes.of_run hG (ro := []) (m := 40) (lay_len ..)
        [.eq 18 (eqB g1), .eq 22 (eqS q1), .eq 23 (eqS q2), .prop mk, .eq 27 (eqS q1), .eq 29 (eqS (nat_rem i 32)), .prop n1, .eq 30 (eq32 s1), .prop ix, .eq 31 (ptr_at 1 (i / 32)), .prop n2, .freeze 1,
         .call cp, .call ct, .call cc, .eq 40 (eqB (cmp_le_true hle)), .eq 20 (eqS ct2)] (by kernel_rfl)
    · rw [rowR_pos h]
      exact Goes.of_run hG (ro := []) (m := 40) (lay_len ..)
        [.eq 18 (eqB g1), .eq 22 (eqS q1), .eq 23 (eqS q2), .prop mk, .eq 27 (eqS q1), .eq 29 (eqS (nat_rem i 32)), .prop n1, .eq 30 (eq32 s1), .prop ix, .eq 31 (ptr_at 1 (i / 32)), .prop n2, .freeze 1,
         .call cp, .call ct, .call cc, .eq 40 (eqB (cmp_le_true hle)), .eq 20 (eqS ct2)] (by kernel_rfl)
  · intro hlt
    unfold rrtInv
    rcases Nat.eq_zero_or_pos r with h | h
    · subst h
      rw [rowR_zero]
      exact Goes.of_run hG (ro := []) (m := 40) (lay_len ..)
        [.eq 18 (eqB g1), .eq 22 (eqS q1), .eq 23 (eqS q2), .prop mk, .eq 27 (eqS q1), .eq 29 (eqS (nat_rem i 32)), .prop n1, .eq 30 (eq32 s1), .prop ix, .eq 31 (ptr_at 1 (i / 32)), .prop n2, .freeze 1,
         .call cp, .call ct, .call cc, .eq 40 (eqB (cmp_le_false hlt)), .eq 20 (eqS ct2)] (by kernel_rfl)
    · rw [rowR_pos h]
      exact Goes.of_run hG (ro := []) (m := 40) (lay_len ..)
        [.eq 18 (eqB g1), .eq 22 (eqS q1), .eq 23 (eqS q2), .prop mk, .eq 27 (eqS q1), .eq 29 (eqS (nat_rem i 32)), .prop n1, .eq 30 (eq32 s1), .prop ix, .eq 31 (ptr_at 1 (i / 32)), .prop n2, .freeze 1,
         .call cp, .call ct, .call cc, .eq 40 (eqB (cmp_le_false hlt)), .eq 20 (eqS ct2)] (by kernel_rfl)
theorem rrt_last (hG : Steady G) {m r : Nat} : Goes Tryz.prog G 0 (loopOf Tryz.f82 0) (rrtInv m (0, r)) (.exit 0) (rrtInv m (0, r)) := by
  unfold rrtInv
  rcases Nat.eq_zero_or_pos r with h | h
  · subst h
    rw [rowR_zero]
    exact Goes.of_run hG (ro := []) (m := 40) (lay_len ..) [] (by kernel_rfl)
  · rw [rowR_pos h]
    exact Goes.of_run hG (ro := []) (m := 40) (lay_len ..) [] (by kernel_rfl)
theorem bl_len (m : Nat) : bl m ≤ 32 * (words m).length := by
  rcases Nat.eq_zero_or_pos m with h | h
  · subst h; exact Nat.zero_le _
  · have h3 := (len_le_iff m _).1 (Nat.le_refl _)
    rcases Nat.lt_or_ge (32 * (words m).length) (bl m) with q | q
    · have h4 := bl_le (x := m) (by omega)
      rw [BP_two] at h3
      have h5 : 2 ^ (32 * (words m).length) ≤ 2 ^ (bl m - 1) := Nat.pow_le_pow_right (by omega) (by omega)
      omega
    · exact q
theorem rrt_loop (hG : Steady G) {m : Nat} (hm : (words m).length ≤ 2 ^ 30) :
    Abs Tryz.prog G 44 0 (.loop (loopOf Tryz.f82 0)) (lay 44 [(2, .ptr 0 0), (4, rowW (words m)), (5, .row 0 true []), (6, nat (bl m / 2))] [(0, zeroW)]) (.exit 0) (rrtInv m (0, isq m)) := by
  have h := Abs.rounds (P := Tryz.prog) (Good := G) (gb := 0) (body := loopOf Tryz.f82 0) (fun p : Nat × Nat => p.1 ≤ bl m + 1 ∧ p.2 * p.2 ≤ m ∧ m < (p.2 + 2 ^ p.1) * (p.2 + 2 ^ p.1)) (rrtInv m) (fun p => p.1) (e := .exit 0) (s' := rrtInv m (0, isq m))
    (fun m => lay_len _ _ _) (by simp) (fun p hp => by
      obtain ⟨c, r⟩ := p
      obtain ⟨h1, h2, h3⟩ := hp
      simp only at h1 h2 h3
      have hr : r ≤ m := by
        rcases Nat.eq_zero_or_pos r with e | e
        · omega
        · have := Nat.le_mul_of_pos_left r e; omega
      cases c with
      | zero =>
        right
        rw [Nat.pow_zero] at h3
        rw [isq_unique h2 h3]
        exact rrt_last hG
      | succ i =>
        left
        obtain ⟨q1, q2⟩ := rrt_round (G := G) hG (i := i) hm (by omega) hr (bl_len m)
        by_cases hle : (r + 2 ^ i) * (r + 2 ^ i) ≤ m
        · refine ⟨(i, r + 2 ^ i), ⟨by simp only; omega, hle, ?_⟩, by simp only; omega, q1 hle⟩
          simp only
          rw [Nat.add_assoc, show 2 ^ i + 2 ^ i = 2 ^ (i + 1) by rw [Nat.pow_succ]; omega]; exact h3
        · exact ⟨(i, r), ⟨by simp only; omega, h2, by simp only; omega⟩, by simp only; omega, q2 (by omega)⟩)
    (bl m / 2 + 1, 0) ⟨by simp only; omega, by simp, by
      simp only [Nat.zero_add]
      rw [two_pow_sq]
      have h1 := bl_lt m
      have h2 : 2 ^ bl m ≤ 2 ^ (2 * (bl m / 2 + 1)) := Nat.pow_le_pow_right (by omega) (by omega)
      omega⟩
  exact h
theorem RRoot_nat (hG : Steady G) {m : Nat} (hm : Sz m) : Spec Tryz.prog G 82 [wv false m] (.tup [wv (false && decide (0 < isq m)) (isq m), int 0]) := by
  have h30 : (2:Nat) ^ 30 = 1073741824 := by decide
  have h36 : (2:Nat) ^ 36 = 68719476736 := by decide
  have h60 : (2:Nat) ^ 60 = 1152921504606846976 := by decide
  have hb := bl_len m
  have hle := len_mono (isq_le_self m)
  have hl := rrt_loop (G := G) hG hm
  unfold Sz at hm
  have q1 : IntKind.wrap .i64 ((Int.ofNat (bl m)).tdiv (Int.ofNat 2)) = Int.ofNat (bl m / 2) := nat_quo (by omega)
  have hf := rform_spec (G := G) hG false (n := isq m) (by omega)
  unfold rrtInv at hl
  rcases Nat.eq_zero_or_pos (isq m) with h | h
  · rw [h] at hl hf ⊢
    rw [rowR_zero] at hl
    exact Spec.of_run hG Tryz.func82 (ro := [1]) (m := 30)
      [.call (rneg_spec (s := false) (n := m) hG (by simp) (by omega)), .call (rmag_spec (s := false) (n := m) hG (by simp) (by omega)), .call (rbits_spec hG (m := m) (by omega)), .eq 16 (eqS q1), .code hl, .call hf] (by kernel_rfl)
  · rw [rowR_pos h] at hl
    exact Spec.of_run hG Tryz.func82 (ro := [1]) (m := 30)
      [.call (rneg_spec (s := false) (n := m) hG (by simp) (by omega)), .call (rmag_spec (s := false) (n := m) hG (by simp) (by omega)), .call (rbits_spec hG (m := m) (by omega)), .eq 16 (eqS q1), .code hl, .call hf] (by kernel_rfl)
theorem RRoot_spec (hG : Steady G) {i : Int} (hi : SzI i) (h : 0 ≤ i) : Spec Tryz.prog G 82 [W i] (.tup [W (isq i.natAbs : Nat), int 0]) := by
  obtain ⟨m, rfl⟩ : ∃ m : Nat, i = (m : Int) := ⟨i.natAbs, by omega⟩
  rw [W_nat, W_nat]
  exact RRoot_nat hG hi

/-! ### Of -/
theorem ROf_neg (hG : Steady G) {x : Nat} (h0 : 0 < x) (h : x ≤ 9223372036854775808) : Spec Tryz.prog G 78 [int (-(x : Int))] (W (-(x : Int))) := by
  have hw := rform_any (G := G) hG true (l := [x % 4294967296, x / 4294967296]) (two_dig (by omega)) (by simp)
  rw [two_words] at hw
  have e := W_mk' true x
  have e2 : mkI true x = -(x : Int) := rfl
  rw [e2] at e
  rw [e]
  have c1 : IntKind.wrap .u64 (-(x : Int)) = Int.ofNat (18446744073709551616 - x) := by rw [wrap64i]; simp only [Int.ofNat_eq_natCast]; omega
  have c2 : IntKind.wrap .u64 (0 - Int.ofNat (18446744073709551616 - x)) = Int.ofNat x := by rw [wrap64i]; simp only [Int.ofNat_eq_natCast]; omega
  have lt : decide (-(x : Int) < 0) = true := by simp; omega
  exact Spec.of_run hG Tryz.func78 (ro := []) (m := 30)
    [.eq 5 (eq64 c1), .eq 7 (eqB lt), .eq 9 (eq64 c2), .eq 11 (eqB lt), .eq 13 (eq32 (conv32 x)), .eq 15 (eq64 (shr32 x)), .eq 16 (eq32 (x := IntKind.wrap .u32 (Int.ofNat (x / 4294967296))) (y := Int.ofNat (x / 4294967296)) (by rw [conv32, Nat.mod_eq_of_lt (by omega)])), .call hw] (by kernel_rfl)
theorem ROf_pos (hG : Steady G) {x : Nat} (h : x < 9223372036854775808) : Spec Tryz.prog G 78 [int (x : Int)] (W (x : Int)) := by
  have hw := rform_any (G := G) hG false (l := [x % 4294967296, x / 4294967296]) (two_dig (by omega)) (by simp)
  rw [two_words] at hw
  have e := W_mk' false x
  have e2 : mkI false x = (x : Int) := rfl
  rw [e2] at e
  rw [e]
  have lt : decide ((x : Int) < 0) = false := by simp
  exact Spec.of_run hG Tryz.func78 (ro := []) (m := 30)
    [.eq 5 (eq64 (x := IntKind.wrap .u64 (x : Int)) (y := Int.ofNat x) (wrap64 (by omega))), .eq 7 (eqB lt), .eq 11 (eqB lt), .eq 13 (eq32 (conv32 x)), .eq 15 (eq64 (shr32 x)),
     .eq 16 (eq32 (x := IntKind.wrap .u32 (Int.ofNat (x / 4294967296))) (y := Int.ofNat (x / 4294967296)) (by rw [conv32, Nat.mod_eq_of_lt (by omega)])), .call hw] (by kernel_rfl)
theorem ROf_spec (hG : Steady G) {i : Int} (h : -9223372036854775808 ≤ i) (h' : i < 9223372036854775808) : Spec Tryz.prog G 78 [int i] (W i) := by
  by_cases hi : i < 0
  · obtain ⟨x, rfl⟩ : ∃ x : Nat, i = -(x : Int) := ⟨i.natAbs, by omega⟩
    exact ROf_neg hG (by omega) (by omega)
  · obtain ⟨x, rfl⟩ : ∃ x : Nat, i = (x : Int) := ⟨i.natAbs, by omega⟩
    exact ROf_pos hG (by omega)
end Lw
