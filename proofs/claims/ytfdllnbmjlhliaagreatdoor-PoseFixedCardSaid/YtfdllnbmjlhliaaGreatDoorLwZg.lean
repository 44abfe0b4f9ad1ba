/- Halving and subtracting in place, for the reference's greatest common divisor. No condition. -/
import Derived.Test.YtfdllnbmjlhliaaGreatDoorLwZf
namespace Lw
open Go Go.RowKit Go.Proofs

variable {G : World → Prop}

/-! ### halve -/
def halF (x i j : Nat) : Nat := if j < i then x / 2 / BP j % 4294967296 else x / BP j % 4294967296
theorem halF_lt (x i j : Nat) : halF x i j < 4294967296 := by unfold halF; split <;> exact Nat.mod_lt _ (by omega)
theorem halF_zero (N x : Nat) : cel N (halF x 0) = dcel N x := by
  rw [← dcel_cel]; exact cel_congr fun j _ => by unfold halF; rw [if_neg (by omega)]
theorem halF_end {N x : Nat} : cel N (halF x (words x).length) = dcel N (x / 2) := by
  rw [← dcel_cel]
  refine cel_congr fun j _ => ?_
  unfold halF
  split
  · rfl
  · rename_i h
    have h1 : x < BP j := (len_le_iff x j).1 (by omega)
    rw [Nat.div_eq_of_lt h1, Nat.div_eq_of_lt (Nat.lt_of_le_of_lt (Nat.div_le_self _ _) h1)]
theorem halF_next {N x t : Nat} (h : t < N) : splice (cel N (halF x t)) t [u32 (x / 2 / BP t % 4294967296)] = cel N (halF x (t + 1)) := by
  rw [splice_cel _ _ h]
  refine cel_congr fun j _ => ?_
  unfold halF
  by_cases hj : j = t
  · subst hj; rw [if_pos rfl, if_pos (by omega)]
  · rw [if_neg hj]
    by_cases h2 : j < t
    · rw [if_pos h2, if_pos (by omega)]
    · rw [if_neg h2, if_neg (by omega)]
theorem hal_dig (x i : Nat) : (x / BP i % 4294967296 / 2 + x / BP (i + 1) % 4294967296 * 2147483648) % 4294967296 = x / 2 / BP i % 4294967296 := by
  rw [BP_succ, Nat.mul_comm 4294967296, ← Nat.div_div_eq_div_mul, Nat.div_div_eq_div_mul x 2, Nat.mul_comm 2, ← Nat.div_div_eq_div_mul]
  generalize x / BP i = q
  omega
def halInv (p : Bool) (N x : Nat) (o : List D) (i : Nat) : St :=
  lay 26 [(0, .gsl (cond p 1 0) (words x).length 1), (5, nat (words x).length), (6, nat i)] (blk2 p (cel N (halF x i)) o)
theorem shr1_u64 (x : Nat) : (Int.ofNat x).fdiv (2 ^ min (Int.toNat 1) (IntKind.bits .u64)) = Int.ofNat (x / 2) := shr_n (x := x) (n := 1) (by omega)
theorem shl31_u64 {x : Nat} (h : x < 4294967296) : IntKind.wrap .u64 (Int.ofNat x * 2 ^ min (Int.toNat 31) (IntKind.bits .u64)) = Int.ofNat (x * 2147483648) := by
  rw [show (2:Int) ^ min (Int.toNat 31) (IntKind.bits .u64) = Int.ofNat 2147483648 by decide]
  exact wrap_mul (by omega)
theorem hal_round (hG : Steady G) {p : Bool} {N x i : Nat} {o : List D} (hn : (words x).length ≤ N) (hN : N < 2 ^ 40) (hi : i < (words x).length) :
    Goes Tryz.prog G 2 (loopOf Tryz.f143 0) (halInv p N x o i) .normal (halInv p N x o (i + 1)) := by
  have h40 : (2:Nat) ^ 40 = 1099511627776 := by decide
  have h60 : (2:Nat) ^ 60 = 1152921504606846976 := by decide
  have a1 := at_part (G := G) hG (N := N) (n := (words x).length) (i := i) (halF_lt x i) hn
  have a2 := at_part (G := G) hG (N := N) (n := (words x).length) (i := i + 1) (halF_lt x i) hn
  have f1 : (if i < (words x).length then halF x i i else 0) = x / BP i % 4294967296 := by rw [if_pos hi]; unfold halF; rw [if_neg (by omega)]
  have f2 : (if i + 1 < (words x).length then halF x i (i + 1) else 0) = x / BP (i + 1) % 4294967296 := by
    split
    · unfold halF; rw [if_neg (by omega)]
    · rw [Nat.div_eq_of_lt ((len_le_iff x (i + 1)).1 (by omega))]
  rw [f1] at a1
  rw [f2] at a2
  have hw : x / BP i % 4294967296 < 4294967296 := Nat.mod_lt _ (by omega)
  have hw2 : x / BP (i + 1) % 4294967296 < 4294967296 := Nat.mod_lt _ (by omega)
  have hor : IntKind.wrap .u64 (((BitVec.ofInt (IntKind.bits .u64) (Int.ofNat (x / BP i % 4294967296 / 2)) ||| BitVec.ofInt (IntKind.bits .u64) (Int.ofNat (x / BP (i + 1) % 4294967296 * 2147483648))).toNat : Nat) : Int)
      = Int.ofNat (x / BP i % 4294967296 / 2 + x / BP (i + 1) % 4294967296 * 2147483648) := by
    rw [or_bits (by omega) (by omega)]
    have := or_low (n := 31) (x := x / BP (i + 1) % 4294967296) (y := x / BP i % 4294967296 / 2) (by rw [show (2:Nat) ^ 31 = 2147483648 by decide]; omega)
    rw [show (2:Nat) ^ 31 = 2147483648 by decide] at this
    rw [this]
  have hcv : IntKind.wrap .u32 (Int.ofNat (x / BP i % 4294967296 / 2 + x / BP (i + 1) % 4294967296 * 2147483648)) = Int.ofNat (x / 2 / BP i % 4294967296) := by rw [conv32, hal_dig]
  have n1 : (0:Int) ≤ Int.ofNat i ∧ Int.ofNat i < ((words x).length : Int) := ix_need hi
  have p1 : D.ptr (cond p 1 0) ((Int.ofNat i).toNat * 1) = .ptr (cond p 1 0) i := by simp
  have n2 : i + 1 ≤ (cel N (halF x i)).length := by rw [cel_len]; omega
  have s1 : IntKind.wrap .i64 (Int.ofNat i + 1) = Int.ofNat (i + 1) := nat_succ (by omega)
  have e : halInv p N x o (i + 1) = lay 26 [(0, .gsl (cond p 1 0) (words x).length 1), (5, nat (words x).length), (6, nat (i + 1))] (blk2 p (splice (cel N (halF x i)) i [u32 (x / 2 / BP i % 4294967296)]) o) := by
    rw [halF_next (by omega)]; rfl
  rw [e]; clear e
  cases p <;> exact Goes.of_run hG (ro := []) (m := 30) (lay_len ..)
    [.eq 7 (eqB (lt_true hi)), .call a1, .eq 14 (eq64 (shr1_u64 (x / BP i % 4294967296))), .eq 17 (eqS s1), .call a2, .eq 19 (eq64 (shl31_u64 hw2)), .eq 20 (eq64 hor), .eq 21 (eq32 hcv),
     .prop n1, .eq 22 p1, .prop n2, .eq 23 (eqS s1)] (by kernel_rfl)
theorem hal_last (hG : Steady G) {p : Bool} {N x : Nat} {o : List D} :
    Goes Tryz.prog G 2 (loopOf Tryz.f143 0) (halInv p N x o (words x).length) (.exit 0) (halInv p N x o (words x).length) := by
  cases p <;> exact Goes.of_run hG (ro := []) (m := 30) (lay_len ..) [.eq 7 (eqB (lt_false (Nat.le_refl (words x).length)))] (by kernel_rfl)
theorem hal_loop (hG : Steady G) (p : Bool) {N x : Nat} (o : List D) (hn : (words x).length ≤ N) (hN : N < 2 ^ 40) :
    Abs Tryz.prog G 26 2 (.loop (loopOf Tryz.f143 0)) (lay 26 [(0, .gsl (cond p 1 0) (words x).length 1), (5, nat (words x).length), (6, nat 0)] (blk2 p (dcel N x) o)) (.exit 0)
      (lay 26 [(0, .gsl (cond p 1 0) (words x).length 1), (5, nat (words x).length), (6, nat (words x).length)] (blk2 p (dcel N (x / 2)) o)) := by
  have h := Abs.count (halInv p N x o) (words x).length (fun k => lay_len _ _ _) (by simp) (fun i hi => hal_round hG hn hN hi) (hal_last hG)
  unfold halInv at h
  rw [halF_zero, halF_end] at h
  exact h

/-! ### take -/
def tkInv (p : Bool) (Na Nb X Y t : Nat) : St :=
  lay 31 [(0, .gsl (cond p 1 0) (words X).length 1), (1, .gsl (cond p 0 1) (words Y).length 1), (4, u64 (cSub X Y t)), (8, nat (words X).length), (9, nat t)] (blk2 p (cel Na (takF X Y t)) (dcel Nb Y))
theorem tk_round (hG : Steady G) {p : Bool} {Na Nb X Y t : Nat} (ha : (words X).length ≤ Na) (hb : (words Y).length ≤ Nb) (hle : Y ≤ X) (hN : Na < 2 ^ 40) (ht : t < (words X).length) :
    Goes Tryz.prog G 2 (loopOf Tryz.f144 0) (tkInv p Na Nb X Y t) .normal (tkInv p Na Nb X Y (t + 1)) := by
  have h40 : (2:Nat) ^ 40 = 1099511627776 := by decide
  have h60 : (2:Nat) ^ 60 = 1152921504606846976 := by decide
  have hd := brw_dig (i := t) hle
  have hn := brw_next (a := X) (b := Y) (i := t)
  have h1 : X / BP t % 4294967296 < 4294967296 := Nat.mod_lt _ (by omega)
  have h2 : Y / BP t % 4294967296 < 4294967296 := Nat.mod_lt _ (by omega)
  have h3 := cSub_le X Y t
  have a1 := at_part (G := G) hG (N := Na) (n := (words X).length) (i := t) (takF_lt X Y t) ha
  have f1 : (if t < (words X).length then takF X Y t t else 0) = X / BP t % 4294967296 := by rw [if_pos ht]; unfold takF; rw [if_neg (by omega)]
  rw [f1] at a1
  have a2 := at_spec (G := G) hG (words Y) (dig_words _) t
  rw [words_getD, ← dcel_row hb] at a2
  have hq := brw_one (x := X / BP t % 4294967296) (y := Y / BP t % 4294967296) (c := cSub X Y t) h1
  have e32 : IntKind.wrap .u32 (Int.ofNat (brw (X / BP t % 4294967296) (Y / BP t % 4294967296) (cSub X Y t))) = Int.ofNat ((X - Y) / BP t % 4294967296) := by rw [conv32, hd]
  have eb : IntKind.wrap .u64 (1 - Int.ofNat (brw (X / BP t % 4294967296) (Y / BP t % 4294967296) (cSub X Y t) / 4294967296)) = Int.ofNat (cSub X Y (t + 1)) := by rw [one_less hq, hn]
  have e21 : IntKind.wrap .u64 (Int.ofNat (4294967296 + X / BP t % 4294967296 - Y / BP t % 4294967296) - Int.ofNat (cSub X Y t)) = Int.ofNat (brw (X / BP t % 4294967296) (Y / BP t % 4294967296) (cSub X Y t)) := wrap_less (by omega) (by omega)
  have e19 : IntKind.wrap .u64 (Int.ofNat (4294967296 + X / BP t % 4294967296) - Int.ofNat (Y / BP t % 4294967296)) = Int.ofNat (4294967296 + X / BP t % 4294967296 - Y / BP t % 4294967296) := wrap_less (by omega) (by omega)
  have n1 : (0:Int) ≤ Int.ofNat t ∧ Int.ofNat t < ((words X).length : Int) := ix_need ht
  have p1 : D.ptr (cond p 1 0) ((Int.ofNat t).toNat * 1) = .ptr (cond p 1 0) t := by simp
  have n2 : t + 1 ≤ (cel Na (takF X Y t)).length := by rw [cel_len]; omega
  have s1 : IntKind.wrap .i64 (Int.ofNat t + 1) = Int.ofNat (t + 1) := nat_succ (by omega)
  have e : tkInv p Na Nb X Y (t + 1) = lay 31 [(0, .gsl (cond p 1 0) (words X).length 1), (1, .gsl (cond p 0 1) (words Y).length 1), (4, u64 (cSub X Y (t + 1))), (8, nat (words X).length), (9, nat (t + 1))]
      (blk2 p (splice (cel Na (takF X Y t)) t [u32 ((X - Y) / BP t % 4294967296)]) (dcel Nb Y)) := by
    rw [takF_next (by omega)]; rfl
  rw [e]; clear e
  cases p <;> exact Goes.of_run hG (ro := []) (m := 30) (lay_len ..)
    [.eq 10 (eqB (lt_true ht)), .call a1, .eq 15 (eq64 (add32 h1)), .call a2, .eq 19 (eq64 e19), .eq 21 (eq64 e21), .eq 25 (eq32 e32), .eq 27 (eq64 (shr32 (brw (X / BP t % 4294967296) (Y / BP t % 4294967296) (cSub X Y t)))), .eq 28 (eq64 eb),
     .prop n1, .eq 29 p1, .prop n2, .eq 30 (eqS s1)] (by kernel_rfl)
theorem tk_last (hG : Steady G) {p : Bool} {Na Nb X Y : Nat} :
    Goes Tryz.prog G 2 (loopOf Tryz.f144 0) (tkInv p Na Nb X Y (words X).length) (.exit 0) (tkInv p Na Nb X Y (words X).length) := by
  cases p <;> exact Goes.of_run hG (ro := []) (m := 30) (lay_len ..) [.eq 10 (eqB (lt_false (Nat.le_refl (words X).length)))] (by kernel_rfl)
theorem takF_stop {N X Y : Nat} : cel N (takF X Y (words X).length) = dcel N (X - Y) := by
  rw [← dcel_cel]
  refine cel_congr fun j _ => ?_
  unfold takF
  split
  · rfl
  · rename_i h
    have h1 : X < BP j := (len_le_iff X j).1 (by omega)
    rw [Nat.div_eq_of_lt h1, Nat.div_eq_of_lt (Nat.lt_of_le_of_lt (Nat.sub_le _ _) h1)]
theorem tk_loop (hG : Steady G) (p : Bool) {Na Nb X Y : Nat} (ha : (words X).length ≤ Na) (hb : (words Y).length ≤ Nb) (hle : Y ≤ X) (hN : Na < 2 ^ 40) :
    Abs Tryz.prog G 31 2 (.loop (loopOf Tryz.f144 0))
      (lay 31 [(0, .gsl (cond p 1 0) (words X).length 1), (1, .gsl (cond p 0 1) (words Y).length 1), (4, u64 0), (8, nat (words X).length), (9, nat 0)] (blk2 p (dcel Na X) (dcel Nb Y))) (.exit 0)
      (lay 31 [(0, .gsl (cond p 1 0) (words X).length 1), (1, .gsl (cond p 0 1) (words Y).length 1), (4, u64 (cSub X Y (words X).length)), (8, nat (words X).length), (9, nat (words X).length)] (blk2 p (dcel Na (X - Y)) (dcel Nb Y))) := by
  have h := Abs.count (tkInv p Na Nb X Y) (words X).length (fun k => lay_len _ _ _) (by simp) (fun i hi => tk_round hG ha hb hle hN hi) (tk_last hG)
  unfold tkInv at h
  rw [takF_stop, takF_zero, dcel_cel, cSub_zero] at h
  exact h
end Lw
