/- The contract of the reference's division, bit by bit. No condition. -/
import Derived.Test.YtfdllnbmjlhliaaGreatDoorLwZd
namespace Lw
open Go Go.RowKit Go.Proofs

variable {G : World → Prop}

/-! ### Digits of doubled numbers -/
def dCar (R c k : Nat) : Nat := ((R % BP k) * 2 + c) / BP k
theorem dCar_zero (R c : Nat) : dCar R c 0 = c := by unfold dCar; rw [BP_zero, Nat.mod_one, Nat.zero_mul, Nat.zero_add, Nat.div_one]
theorem dCar_le {R c : Nat} (hc : c ≤ 1) (k : Nat) : dCar R c k ≤ 1 := by
  unfold dCar
  have h1 := mod_BP_lt R k
  have := BP_pos k
  have : (R % BP k * 2 + c) / BP k < 2 := (Nat.div_lt_iff_lt_mul (BP_pos k)).2 (by omega)
  omega
theorem dCar_step {R c : Nat} (hc : c ≤ 1) (k : Nat) : dCar R c (k + 1) = R / BP k % 4294967296 / 2147483648 := by
  have hle := dCar_le (R := R) hc k
  have e : dCar R c (k + 1) = (2 * (R / BP k % 4294967296) + dCar R c k) / 4294967296 := by
    unfold dCar
    rw [mod_BP_succ, BP_succ, Nat.mul_comm 4294967296, ← Nat.div_div_eq_div_mul]
    congr 1
    rw [show (BP k * (R / BP k % 4294967296) + R % BP k) * 2 + c = BP k * (2 * (R / BP k % 4294967296)) + (R % BP k * 2 + c) by grind, Nat.mul_add_div (BP_pos k)]
  rw [e]
  have : R / BP k % 4294967296 < 4294967296 := Nat.mod_lt _ (by omega)
  omega
theorem dCar_dig {R c : Nat} (k : Nat) : (2 * R + c) / BP k % 4294967296 = (2 * (R / BP k % 4294967296) + dCar R c k) % 4294967296 := by
  unfold dCar
  have h := Nat.div_add_mod R (BP k)
  have e : 2 * R + c = BP k * (2 * (R / BP k)) + (R % BP k * 2 + c) := by
    conv => lhs; rw [← h]
    grind
  rw [e, Nat.mul_add_div (BP_pos k)]
  omega
theorem or_small {x c : Nat} (hc : c ≤ 1) : (2 * x ||| c) = 2 * x + c := by
  have := (Nat.two_pow_add_eq_or_of_lt (i := 1) (b := c) (by omega) x)
  rw [show 2 ^ 1 = 2 from rfl] at this
  omega
theorem shl_or {w c : Nat} (hc : c ≤ 1) : ((2 * w) % 4294967296 ||| c) = (2 * w + c) % 4294967296 := by
  rw [show (2 * w) % 4294967296 = 2 * (w % 2147483648) by omega, or_small hc]; omega
theorem shl1_u32 (w : Nat) : IntKind.wrap .u32 (Int.ofNat w * 2 ^ min (Int.toNat 1) (IntKind.bits .u32)) = Int.ofNat (2 * w % 4294967296) := by
  have e : min (Int.toNat 1) (IntKind.bits .u32) = 1 := rfl
  rw [e, wrap32i]
  simp only [Int.ofNat_eq_natCast]
  omega
theorem shr31_u32 (w : Nat) : (Int.ofNat w).fdiv (2 ^ min (Int.toNat 31) (IntKind.bits .u32)) = Int.ofNat (w / 2147483648) := shr_u32 (x := w) 31 (by omega)
theorem and_one {x : Nat} (hx : x < 4294967296) :
    IntKind.wrap .u32 (((BitVec.ofInt (IntKind.bits .u32) (Int.ofNat x) &&& BitVec.ofInt (IntKind.bits .u32) 1).toNat : Nat) : Int) = Int.ofNat (x % 2) := by
  have e : (BitVec.ofInt (IntKind.bits .u32) (Int.ofNat x)).toNat = x := by
    show (BitVec.ofInt 32 (Int.ofNat x)).toNat = x
    simp only [Int.ofNat_eq_natCast, BitVec.ofInt_natCast, BitVec.toNat_ofNat]
    exact Nat.mod_eq_of_lt (by simpa using hx)
  have e1 : (BitVec.ofInt (IntKind.bits .u32) 1).toNat = 1 := by decide
  rw [BitVec.toNat_and, e, e1, Nat.and_one_is_mod]
  have h2 := wrap32 (n := x % 2)
  have h3 : x % 2 % 4294967296 = x % 2 := by omega
  rw [h3] at h2
  exact h2
/-- One bit of a number, off its word. -/
theorem word_bit (a i : Nat) : a / BP (i / 32) % 4294967296 / 2 ^ (i % 32) % 2 = a / 2 ^ i % 2 := by
  rw [BP_two]
  have e : 2 ^ i = 2 ^ (32 * (i / 32)) * 2 ^ (i % 32) := by rw [← Nat.pow_add]; congr 1; omega
  rw [e, ← Nat.div_div_eq_div_mul]
  generalize a / 2 ^ (32 * (i / 32)) = x
  have hs : i % 32 < 32 := Nat.mod_lt _ (by omega)
  generalize i % 32 = s at *
  have h32 : 4294967296 = 2 ^ s * 2 ^ (32 - s) := by rw [← Nat.pow_add, show s + (32 - s) = 32 by omega]
  have h2 : 2 ^ (32 - s) = 2 * 2 ^ (31 - s) := by rw [← Nat.pow_succ']; congr 1; omega
  rw [h32, Nat.mod_mul_right_div_self, h2, Nat.mod_mul_right_mod]

/-! ### take, in place -/
def takF (X Y t j : Nat) : Nat := if j < t then (X - Y) / BP j % 4294967296 else X / BP j % 4294967296
theorem takF_zero (X Y : Nat) : takF X Y 0 = fun j => X / BP j % 4294967296 := by funext j; unfold takF; rw [if_neg (by omega)]
theorem takF_next {N X Y t : Nat} (h : t < N) : splice (cel N (takF X Y t)) t [u32 ((X - Y) / BP t % 4294967296)] = cel N (takF X Y (t + 1)) := by
  rw [splice_cel _ _ h]
  refine cel_congr fun j _ => ?_
  unfold takF
  by_cases hj : j = t
  · subst hj; rw [if_pos rfl, if_pos (by omega)]
  · rw [if_neg hj]
    by_cases h2 : j < t
    · rw [if_pos h2, if_pos (by omega)]
    · rw [if_neg h2, if_neg (by omega)]
theorem takF_lt (X Y t j : Nat) : takF X Y t j < 4294967296 := by unfold takF; split <;> exact Nat.mod_lt _ (by omega)
theorem takF_end {N X Y : Nat} : cel N (takF X Y N) = (digs N (X - Y)).map u32 := by
  rw [← cel_digs]
  exact cel_congr fun j hj => by unfold takF; rw [if_pos hj]
theorem cel_list (N : Nat) (f : Nat → Nat) : cel N f = ((List.range N).map f).map u32 := by simp [cel]
theorem at_cells (hG : Steady G) {N i : Nat} {f : Nat → Nat} (hf : ∀ j, f j < 4294967296) (hi : i < N) :
    Spec Tryz.prog G 147 [.row N false (((cel N f).drop 0).take N), nat i] (u64 (f i)) := by
  have h := at_spec (G := G) hG ((List.range N).map f) (fun x hx => by simp only [List.mem_map] at hx; obtain ⟨j, -, rfl⟩ := hx; exact hf j) i
  have e : rowW ((List.range N).map f) = .row N false (((cel N f).drop 0).take N) := by
    unfold rowW
    rw [cel_list, List.drop_zero, List.take_of_length_le (by simp)]
    simp
  have e2 : ((List.range N).map f).getD i 0 = f i := by simp [List.getD_eq_getElem?_getD, hi]
  rw [e, e2] at h
  exact h
def takeInv (N : Nat) (v : List Nat) (X : Nat) (qs : List D) (t : Nat) : St :=
  lay 31 [(0, .slc 1 0 N N), (1, rowW v), (4, u64 (cSub X (val v) t)), (8, nat N), (9, nat t)] [(0, qs), (1, cel N (takF X (val v) t))]
theorem take_round (hG : Steady G) {N X : Nat} {v : List Nat} {qs : List D} (hv : Dig v) (hle : val v ≤ X) (hN : N < 2 ^ 40) {t : Nat} (ht : t < N) :
    Goes Tryz.prog G 2 (loopOf Tryz.f144 0) (takeInv N v X qs t) .normal (takeInv N v X qs (t + 1)) := by
  have h40 : (2:Nat) ^ 40 = 1099511627776 := by decide
  have h60 : (2:Nat) ^ 60 = 1152921504606846976 := by decide
  have hd := brw_dig (i := t) hle
  have hn := brw_next (a := X) (b := val v) (i := t)
  rw [← getD_val hv] at hd hn
  have h1 : X / BP t % 4294967296 < 4294967296 := Nat.mod_lt _ (by omega)
  have h2 := hv.getD t
  have h3 := cSub_le X (val v) t
  have ha := at_cells (G := G) hG (f := takF X (val v) t) (takF_lt X (val v) t) ht
  have e0 : takF X (val v) t t = X / BP t % 4294967296 := by unfold takF; rw [if_neg (by omega)]
  rw [e0] at ha
  have hq := brw_one (x := X / BP t % 4294967296) (y := v.getD t 0) (c := cSub X (val v) t) h1
  have e : takeInv N v X qs (t + 1) = lay 31 [(0, .slc 1 0 N N), (1, rowW v), (4, u64 (cSub X (val v) (t + 1))), (8, nat N), (9, nat (t + 1))] [(0, qs), (1, splice (cel N (takF X (val v) t)) t [u32 ((X - val v) / BP t % 4294967296)])] := by
    rw [takF_next ht]; rfl
  rw [e]; clear e
  exact Goes.of_run hG (ro := []) (m := 30) (lay_len ..)
    [.eq 10 (eqB (lt_true ht)), .call ha, .eq 15 (eq64 (add32 h1)), .call (at_spec hG v hv t), .eq 19 (eq64 (x := IntKind.wrap .u64 (Int.ofNat (4294967296 + X / BP t % 4294967296) - Int.ofNat (v.getD t 0))) (y := Int.ofNat (4294967296 + X / BP t % 4294967296 - v.getD t 0)) (wrap_less (by omega) (by omega))),
     .eq 21 (eq64 (x := IntKind.wrap .u64 (Int.ofNat (4294967296 + X / BP t % 4294967296 - v.getD t 0) - Int.ofNat (cSub X (val v) t))) (y := Int.ofNat (brw (X / BP t % 4294967296) (v.getD t 0) (cSub X (val v) t))) (wrap_less (by omega) (by omega))),
     .eq 25 (eq32 (x := IntKind.wrap .u32 (Int.ofNat (brw (X / BP t % 4294967296) (v.getD t 0) (cSub X (val v) t)))) (y := Int.ofNat ((X - val v) / BP t % 4294967296)) (by rw [conv32, hd])),
     .eq 27 (eq64 (shr32 (brw (X / BP t % 4294967296) (v.getD t 0) (cSub X (val v) t)))), .eq 28 (eq64 (x := IntKind.wrap .u64 (1 - Int.ofNat (brw (X / BP t % 4294967296) (v.getD t 0) (cSub X (val v) t) / 4294967296))) (y := Int.ofNat (cSub X (val v) (t + 1))) (by rw [one_less hq, hn])),
     .prop (ix_need ht), .eq 29 (ptr_at 1 t), .prop (p := t + 1 ≤ (cel N (takF X (val v) t)).length) (by rw [cel_len]; omega), .eq 30 (eqS (nat_succ (i := t) (by omega)))] (by kernel_rfl)
theorem take_last (hG : Steady G) {N X : Nat} {v : List Nat} {qs : List D} : Goes Tryz.prog G 2 (loopOf Tryz.f144 0) (takeInv N v X qs N) (.exit 0) (takeInv N v X qs N) :=
  Goes.of_run hG (ro := []) (m := 30) (lay_len ..) [.eq 10 (eqB (lt_false (Nat.le_refl N)))] (by kernel_rfl)
theorem take_loop (hG : Steady G) {N X : Nat} {v : List Nat} (qs : List D) (hv : Dig v) (hle : val v ≤ X) (hN : N < 2 ^ 40) :
    Abs Tryz.prog G 31 2 (.loop (loopOf Tryz.f144 0))
      (lay 31 [(0, .slc 1 0 N N), (1, rowW v), (4, u64 0), (8, nat N), (9, nat 0)] [(0, qs), (1, cel N (fun j => X / BP j % 4294967296))]) (.exit 0) (takeInv N v X qs N) := by
  have h := Abs.count (takeInv N v X qs) N (fun k => lay_len _ _ _) (by simp) (fun i hi => take_round hG hv hle hN hi) (take_last hG)
  have e : takeInv N v X qs 0 = lay 31 [(0, .slc 1 0 N N), (1, rowW v), (4, u64 0), (8, nat N), (9, nat 0)] [(0, qs), (1, cel N (fun j => X / BP j % 4294967296))] := by
    unfold takeInv; rw [takF_zero, cSub_zero]
  rw [e] at h; exact h

/-! ### The doubling of the rest -/
structure RDiv where
  A : Nat
  B : Nat
def RDiv.la (d : RDiv) : Nat := (words d.A).length
def RDiv.N (d : RDiv) : Nat := (words d.B).length + 1
def RDiv.R (d : RDiv) (c : Nat) : Nat := d.A / 2 ^ c % d.B
def RDiv.c0 (d : RDiv) (i : Nat) : Nat := d.A / 2 ^ i % 2
def RDiv.X (d : RDiv) (i : Nat) : Nat := 2 * d.R (i + 1) + d.c0 i
def dblF (R X k j : Nat) : Nat := if j < k then X / BP j % 4294967296 else R / BP j % 4294967296
theorem dblF_next {N R X t : Nat} (h : t < N) : splice (cel N (dblF R X t)) t [u32 (X / BP t % 4294967296)] = cel N (dblF R X (t + 1)) := by
  rw [splice_cel _ _ h]
  refine cel_congr fun j _ => ?_
  unfold dblF
  by_cases hj : j = t
  · subst hj; rw [if_pos rfl, if_pos (by omega)]
  · rw [if_neg hj]
    by_cases h2 : j < t
    · rw [if_pos h2, if_pos (by omega)]
    · rw [if_neg h2, if_neg (by omega)]
def dblInv (d : RDiv) (i : Nat) (qs : List D) (k : Nat) : St :=
  lay 76 [(0, rowW (words d.A)), (1, rowW (words d.B)), (6, .slc 0 0 d.la d.la), (7, .slc 1 0 d.N d.N), (8, nat i), (9, u32 (dCar (d.R (i + 1)) (d.c0 i) k)), (35, nat d.N), (36, nat k)]
    [(0, qs), (1, cel d.N (dblF (d.R (i + 1)) (d.X i) k))]
theorem dbl_round (hG : Steady G) {d : RDiv} {i : Nat} {qs : List D} (hN : d.N < 2 ^ 40) {k : Nat} (hk : k < d.N) :
    Goes Tryz.prog G 0 (loopOf Tryz.f134 1) (dblInv d i qs k) .normal (dblInv d i qs (k + 1)) := by
  have h40 : (2:Nat) ^ 40 = 1099511627776 := by decide
  have h60 : (2:Nat) ^ 60 = 1152921504606846976 := by decide
  have hc : d.c0 i ≤ 1 := by unfold RDiv.c0; omega
  have hw : d.R (i + 1) / BP k % 4294967296 < 4294967296 := Nat.mod_lt _ (by omega)
  have hcar := dCar_le (R := d.R (i + 1)) hc k
  have hs := dCar_step (R := d.R (i + 1)) hc k
  have hd := dCar_dig (R := d.R (i + 1)) (c := d.c0 i) k
  have hcell : ((cel d.N (dblF (d.R (i + 1)) (d.X i) k)).drop k).headD .any = u32 (d.R (i + 1) / BP k % 4294967296) := by rw [cel_getD hk]; unfold dblF; rw [if_neg (by omega)]
  have e : dblInv d i qs (k + 1) = lay 76 [(0, rowW (words d.A)), (1, rowW (words d.B)), (6, .slc 0 0 d.la d.la), (7, .slc 1 0 d.N d.N), (8, nat i), (9, u32 (dCar (d.R (i + 1)) (d.c0 i) (k + 1))), (35, nat d.N), (36, nat (k + 1))]
      [(0, qs), (1, splice (cel d.N (dblF (d.R (i + 1)) (d.X i) k)) k [u32 (d.X i / BP k % 4294967296)])] := by
    rw [dblF_next hk]; rfl
  rw [e]; clear e
  have hor : IntKind.wrap .u32 (((BitVec.ofInt (IntKind.bits .u32) (Int.ofNat (2 * (d.R (i + 1) / BP k % 4294967296) % 4294967296)) ||| BitVec.ofInt (IntKind.bits .u32) (Int.ofNat (dCar (d.R (i + 1)) (d.c0 i) k))).toNat : Nat) : Int) = Int.ofNat (d.X i / BP k % 4294967296) := by
    rw [or_bits32 (Nat.mod_lt _ (by omega)) (by omega), shl_or hcar, ← hd]; rfl
  exact Goes.of_run hG (ro := []) (m := 30) (lay_len ..)
    [.eq 37 (eqB (lt_true hk)), .prop (ix_need hk), .eq 43 (ptr_at 1 k), .prop (p := 0 < 1 ∧ k + 1 ≤ (cel d.N (dblF (d.R (i + 1)) (d.X i) k)).length) (by rw [cel_len]; omega), .eq 44 hcell,
     .eq 45 (eq32 (shl1_u32 (d.R (i + 1) / BP k % 4294967296))), .eq 47 (eq32 hor), .prop (ix_need hk), .eq 50 (ptr_at 1 k), .prop (p := 0 < 1 ∧ k + 1 ≤ (cel d.N (dblF (d.R (i + 1)) (d.X i) k)).length) (by rw [cel_len]; omega), .eq 51 hcell,
     .eq 52 (eq32 (x := (Int.ofNat (d.R (i + 1) / BP k % 4294967296)).fdiv (2 ^ min (Int.toNat 31) (IntKind.bits .u32))) (y := Int.ofNat (dCar (d.R (i + 1)) (d.c0 i) (k + 1))) (by rw [shr31_u32, hs])),
     .prop (ix_need hk), .eq 53 (ptr_at 1 k), .prop (p := k + 1 ≤ (cel d.N (dblF (d.R (i + 1)) (d.X i) k)).length) (by rw [cel_len]; omega), .eq 54 (eqS (nat_succ (i := k) (by omega)))] (by kernel_rfl)
theorem dbl_last (hG : Steady G) {d : RDiv} {i : Nat} {qs : List D} : Goes Tryz.prog G 0 (loopOf Tryz.f134 1) (dblInv d i qs d.N) (.exit 2) (dblInv d i qs d.N) :=
  Goes.of_run hG (ro := []) (m := 30) (lay_len ..) [.eq 37 (eqB (lt_false (Nat.le_refl d.N)))] (by kernel_rfl)
theorem dbl_loop (hG : Steady G) {d : RDiv} {i : Nat} (qs : List D) (hN : d.N < 2 ^ 40) :
    Abs Tryz.prog G 76 0 (.loop (loopOf Tryz.f134 1))
      (lay 76 [(0, rowW (words d.A)), (1, rowW (words d.B)), (6, .slc 0 0 d.la d.la), (7, .slc 1 0 d.N d.N), (8, nat i), (9, u32 (d.c0 i)), (35, nat d.N), (36, nat 0)]
        [(0, qs), (1, cel d.N (fun j => d.R (i + 1) / BP j % 4294967296))]) (.exit 2) (dblInv d i qs d.N) := by
  have h := Abs.count (dblInv d i qs) d.N (fun k => lay_len _ _ _) (by simp) (fun k hk => dbl_round hG hN hk) (dbl_last hG)
  have e : dblInv d i qs 0 = lay 76 [(0, rowW (words d.A)), (1, rowW (words d.B)), (6, .slc 0 0 d.la d.la), (7, .slc 1 0 d.N d.N), (8, nat i), (9, u32 (d.c0 i)), (35, nat d.N), (36, nat 0)]
        [(0, qs), (1, cel d.N (fun j => d.R (i + 1) / BP j % 4294967296))] := by
    unfold dblInv
    rw [dCar_zero]
    congr 3
  rw [e] at h; exact h

/-! ### The bits of the quotient -/
theorem setbit (K i j : Nat) : (K * 2 ^ (i + 1) + 2 ^ i) / BP j % 4294967296 = if j = i / 32 then (K * 2 ^ (i + 1) / BP j % 4294967296 ||| 2 ^ (i % 32)) else K * 2 ^ (i + 1) / BP j % 4294967296 := by
  have hs : i % 32 < 32 := Nat.mod_lt _ (by omega)
  have hi : i = i % 32 + 32 * (i / 32) := by omega
  generalize i / 32 = j0 at *
  generalize i % 32 = s at *
  subst hi
  have e1 : 2 ^ (s + 32 * j0) = 2 ^ s * BP j0 := by rw [BP_two, ← Nat.pow_add]
  have e2 : K * 2 ^ (s + 32 * j0 + 1) = (2 ^ (s + 1) * K) * BP j0 := by
    rw [show s + 32 * j0 + 1 = (s + 1) + 32 * j0 by omega, Nat.pow_add, BP_two, Nat.mul_comm (2 ^ (s + 1)) K, Nat.mul_assoc]
  rw [e1, e2, ← Nat.add_mul]
  have h32 : 4294967296 = 2 ^ (s + 1) * 2 ^ (31 - s) := by rw [← Nat.pow_add, show s + 1 + (31 - s) = 32 by omega]
  have hm : (2 ^ (s + 1) * K) % 4294967296 = 2 ^ (s + 1) * (K % 2 ^ (31 - s)) := by rw [h32, Nat.mul_mod_mul_left]
  have hK : K % 2 ^ (31 - s) < 2 ^ (31 - s) := Nat.mod_lt _ (Nat.two_pow_pos _)
  have hlt : 2 ^ (s + 1) * (K % 2 ^ (31 - s)) + 2 ^ (s + 1) ≤ 4294967296 := by
    conv => rhs; rw [h32]
    rw [← Nat.mul_succ]; exact Nat.mul_le_mul_left _ hK
  have hss : 2 ^ (s + 1) = 2 * 2 ^ s := by rw [Nat.pow_succ]; omega
  have hsp : 0 < 2 ^ s := Nat.two_pow_pos s
  rcases Nat.lt_or_ge j j0 with h | h
  · rw [if_neg (by omega)]
    have e3 : BP j0 = (BP (j0 - j - 1) * 4294967296) * BP j := by
      conv => lhs; rw [show j0 = (j0 - j - 1) + 1 + j by omega, BP_add, BP_succ]
      rw [Nat.mul_comm 4294967296]
    rw [e3, ← Nat.mul_assoc, ← Nat.mul_assoc, Nat.mul_div_cancel _ (BP_pos j), Nat.mul_mod_left, ← Nat.mul_assoc, ← Nat.mul_assoc, Nat.mul_div_cancel _ (BP_pos j), Nat.mul_mod_left]
  · have e4 : ∀ T : Nat, T * BP j0 / BP j = T / BP (j - j0) := fun T => by
      conv => lhs; rw [show j = j0 + (j - j0) by omega, BP_add]
      rw [← Nat.div_div_eq_div_mul, Nat.mul_div_cancel _ (BP_pos j0)]
    rw [e4, e4]
    generalize hT : 2 ^ (s + 1) * K = T at *
    rcases Nat.eq_or_lt_of_le h with h | h
    · subst h
      rw [if_pos rfl, Nat.sub_self, BP_zero, Nat.div_one, Nat.div_one, hm, ← Nat.two_pow_add_eq_or_of_lt (by omega), Nat.add_mod, hm]
      rw [Nat.mod_eq_of_lt (show 2 ^ s < 4294967296 by omega), Nat.mod_eq_of_lt (by omega)]
    · rw [if_neg (by omega), show j - j0 = 1 + (j - j0 - 1) by omega, BP_add, ← Nat.div_div_eq_div_mul, ← Nat.div_div_eq_div_mul]
      have e5 : BP 1 = 4294967296 := rfl
      rw [e5]
      have : (T + 2 ^ s) / 4294967296 = T / 4294967296 := by omega
      rw [this]
def RDiv.ok (d : RDiv) : Prop := 0 < d.B ∧ d.la ≤ 2 ^ 36 ∧ d.N ≤ 2 ^ 36 + 1
def RDiv.qF (d : RDiv) (c j : Nat) : Nat := (d.A / 2 ^ c / d.B * 2 ^ c) / BP j % 4294967296
def divInv (d : RDiv) (c : Nat) : St :=
  lay 76 [(0, rowW (words d.A)), (1, rowW (words d.B)), (6, .slc 0 0 d.la d.la), (7, .slc 1 0 d.N d.N), (8, int (cnt c))] [(0, cel d.la (d.qF c)), (1, cel d.N (fun j => d.R c / BP j % 4294967296))]
theorem RDiv.step {d : RDiv} (hB : 0 < d.B) (i : Nat) :
    d.A / 2 ^ i / d.B = 2 * (d.A / 2 ^ (i + 1) / d.B) + (if d.B ≤ d.X i then 1 else 0) ∧ d.R i = if d.B ≤ d.X i then d.X i - d.B else d.X i := by
  have h := bit_step (x := d.A / 2 ^ (i + 1)) (b := d.B) (c := d.A / 2 ^ i % 2) hB (by omega)
  rw [← div_two_pow_succ] at h
  exact h
theorem RDiv.X_lt {d : RDiv} (hB : 0 < d.B) (i : Nat) : d.X i < BP d.N := by
  have h1 : d.R (i + 1) < d.B := Nat.mod_lt _ hB
  have h2 : d.B < BP (words d.B).length := (len_le_iff _ _).1 (Nat.le_refl _)
  unfold RDiv.N
  rw [BP_succ]
  unfold RDiv.X RDiv.c0
  omega
theorem RDiv.q_set {d : RDiv} (hB : 0 < d.B) {i : Nat} (h : d.B ≤ d.X i) (j : Nat) : d.qF i j = if j = i / 32 then (d.qF (i + 1) j ||| 2 ^ (i % 32)) else d.qF (i + 1) j := by
  unfold RDiv.qF
  rw [(RDiv.step hB i).1, if_pos h, Nat.add_mul, Nat.one_mul, Nat.mul_comm 2, Nat.mul_assoc, ← Nat.pow_succ', setbit]
theorem RDiv.q_keep {d : RDiv} (hB : 0 < d.B) {i : Nat} (h : ¬ d.B ≤ d.X i) (j : Nat) : d.qF i j = d.qF (i + 1) j := by
  unfold RDiv.qF
  rw [(RDiv.step hB i).1, if_neg h, Nat.add_zero, Nat.mul_comm 2, Nat.mul_assoc, ← Nat.pow_succ']
theorem RDiv.cmp (hG : Steady G) {d : RDiv} (hd : d.ok) (i : Nat) (k : Nat) (hk : k = d.N) :
    Spec Tryz.prog G 127 [.row d.N false (((cel d.N (dblF (d.R (i + 1)) (d.X i) k)).drop 0).take d.N), rowW (words d.B)] (int (cmpI (d.X i) d.B)) := by
  obtain ⟨hB, -, hN⟩ := hd
  have h36 : (2:Nat) ^ 36 = 68719476736 := by decide
  have h40 : (2:Nat) ^ 40 = 1099511627776 := by decide
  have h := rcompare_spec (G := G) hG (l := digs d.N (d.X i)) (m := words d.B) (digs_dig _ _) (dig_words _) (by rw [digs_len]; omega) (by unfold RDiv.N at hN; omega)
  rw [val_digs (RDiv.X_lt hB i), val_words, ← cel_row] at h
  have e : cel d.N (dblF (d.R (i + 1)) (d.X i) k) = cel d.N (fun j => d.X i / BP j % 4294967296) := cel_congr fun j hj => by unfold dblF; rw [if_pos (by omega)]
  rw [e]; exact h
theorem ndivs_round (hG : Steady G) {d : RDiv} (hd : d.ok) {i : Nat} (hi : i < bl d.A) :
    Goes Tryz.prog G 0 (loopOf Tryz.f134 0) (divInv d (i + 1)) .normal (divInv d i) := by
  have hcmp := RDiv.cmp (G := G) hG hd i d.N rfl
  obtain ⟨hB, hla, hN⟩ := hd
  have h36 : (2:Nat) ^ 36 = 68719476736 := by decide
  have h40 : (2:Nat) ^ 40 = 1099511627776 := by decide
  have h60 : (2:Nat) ^ 60 = 1152921504606846976 := by decide
  have hbl : bl d.A ≤ 32 * d.la := by
    rcases Nat.lt_or_ge (32 * d.la) (bl d.A) with q | q
    · have h1 := bl_le (x := d.A) (fun e => by rw [e, bl_zero] at hi; omega)
      have h2 : d.A < BP d.la := (len_le_iff _ _).1 (Nat.le_refl _)
      rw [BP_two] at h2
      have h3 : 2 ^ (32 * d.la) ≤ 2 ^ (bl d.A - 1) := Nat.pow_le_pow_right (by omega) (by omega)
      omega
    · exact q
  have hix : i / 32 < d.la := by omega
  have hi60 : i < 2 ^ 60 := by omega
  have hwd := (dig_words d.A).getD (i / 32)
  have hwn : 0 ≤ Int.ofNat (i % 32) := by simp only [Int.ofNat_eq_natCast]; omega
  have hdbl := dbl_loop (G := G) hG (d := d) (i := i) (cel d.la (d.qF (i + 1))) (by omega)
  have hbit : Int.ofNat ((words d.A).getD (i / 32) 0 / 2 ^ (i % 32) % 2) = Int.ofNat (d.c0 i) := by rw [words_getD, word_bit]; rfl
  have hand : IntKind.wrap .u32 (((BitVec.ofInt (IntKind.bits .u32) (Int.ofNat ((words d.A).getD (i / 32) 0 / 2 ^ (i % 32))) &&& BitVec.ofInt (IntKind.bits .u32) 1).toNat : Nat) : Int) = Int.ofNat (d.c0 i) := by
    rw [and_one (Nat.lt_of_le_of_lt (Nat.div_le_self _ _) hwd), hbit]
  by_cases hge : d.B ≤ d.X i
  · have htake := take_loop (G := G) hG (N := d.N) (X := d.X i) (v := words d.B) (cel d.la (d.qF (i + 1))) (dig_words _) (by rw [val_words]; exact hge) (by omega)
    have edbl : cel d.N (dblF (d.R (i + 1)) (d.X i) d.N) = cel d.N (fun j => d.X i / BP j % 4294967296) := cel_congr fun j hj => by unfold dblF; rw [if_pos hj]
    rw [← edbl] at htake
    have hqlt : d.qF (i + 1) (i / 32) < 4294967296 := Nat.mod_lt _ (by omega)
    have h2lt : 2 ^ (i % 32) < 4294967296 := by have := Nat.pow_lt_pow_right (a := 2) (by omega) (show i % 32 < 32 by omega); have h32 : 2 ^ 32 = 4294967296 := by decide
                                                omega
    have e : divInv d i = lay 76 [(0, rowW (words d.A)), (1, rowW (words d.B)), (6, .slc 0 0 d.la d.la), (7, .slc 1 0 d.N d.N), (8, int (cnt i))]
        [(0, splice (cel d.la (d.qF (i + 1))) (i / 32) [u32 (d.qF (i + 1) (i / 32) ||| 2 ^ (i % 32))]), (1, cel d.N (takF (d.X i) (val (words d.B)) d.N))] := by
      rw [splice_cel _ _ hix]
      unfold divInv
      have f1 : cel d.la (d.qF i) = cel d.la (fun j => if j = i / 32 then d.qF (i + 1) (i / 32) ||| 2 ^ (i % 32) else d.qF (i + 1) j) := cel_congr fun j _ => by
        rw [RDiv.q_set hB hge]
        by_cases hj : j = i / 32
        · rw [if_pos hj, if_pos hj, hj]
        · rw [if_neg hj, if_neg hj]
      have f2 : cel d.N (fun j => d.R i / BP j % 4294967296) = cel d.N (takF (d.X i) (val (words d.B)) d.N) := cel_congr fun j hj => by
        unfold takF
        rw [if_pos hj, val_words, (RDiv.step hB i).2, if_pos hge]
      rw [f1, f2]
    rw [e]; clear e
    exact Goes.of_run hG (ro := []) (m := 40) (lay_len ..)
      [.eq 22 (eqB (x := decide (Int.ofNat i ≥ 0)) (y := true) (by simp)), .eq 27 (eqS (nat_quo (i := i) (c := 32) hi60)), .prop (at_need (l := words d.A) (i := i / 32) hix), .prop (load_need (l := words d.A) (i := i / 32) hix), .eq 29 (headD_need (l := words d.A) (i := i / 32) hix),
       .eq 31 (eqS (nat_rem i 32)), .prop hwn, .eq 32 (eq32 (shr_u32 (x := (words d.A).getD (i / 32) 0) (i % 32) (by omega))), .eq 33 (eq32 hand), .code hdbl, .call hcmp, .eq 58 (eqB (cmp_ge0 hge)),
       .inl [] Tryz.func144, .code htake,
       .eq 64 (eqS (nat_quo (i := i) (c := 32) hi60)), .prop (ix_need hix), .eq 65 (ptr_at 0 (i / 32)), .prop (p := 0 < 1 ∧ i / 32 + 1 ≤ (cel d.la (d.qF (i + 1))).length) (by rw [cel_len]; omega), .eq 66 (cel_getD (N := d.la) (f := d.qF (i + 1)) hix),
       .eq 68 (eqS (nat_rem i 32)), .prop hwn, .eq 69 (eq32 (shl_one (k := i % 32) (by omega))), .eq 70 (eq32 (or_bits32 hqlt h2lt)), .prop (ix_need hix), .eq 71 (ptr_at 0 (i / 32)), .prop (p := i / 32 + 1 ≤ (cel d.la (d.qF (i + 1))).length) (by rw [cel_len]; omega),
       .eq 24 (eqS (cnt_top hi60))] (by kernel_rfl)
  · have e : divInv d i = lay 76 [(0, rowW (words d.A)), (1, rowW (words d.B)), (6, .slc 0 0 d.la d.la), (7, .slc 1 0 d.N d.N), (8, int (cnt i))] [(0, cel d.la (d.qF (i + 1))), (1, cel d.N (dblF (d.R (i + 1)) (d.X i) d.N))] := by
      unfold divInv
      have f1 : cel d.la (d.qF i) = cel d.la (d.qF (i + 1)) := cel_congr fun j _ => RDiv.q_keep hB hge j
      have f2 : cel d.N (fun j => d.R i / BP j % 4294967296) = cel d.N (dblF (d.R (i + 1)) (d.X i) d.N) := cel_congr fun j hj => by
        unfold dblF
        rw [if_pos hj, (RDiv.step hB i).2, if_neg hge]
      rw [f1, f2]
    rw [e]; clear e
    exact Goes.of_run hG (ro := []) (m := 40) (lay_len ..)
      [.eq 22 (eqB (x := decide (Int.ofNat i ≥ 0)) (y := true) (by simp)), .eq 27 (eqS (nat_quo (i := i) (c := 32) hi60)), .prop (at_need (l := words d.A) (i := i / 32) hix), .prop (load_need (l := words d.A) (i := i / 32) hix), .eq 29 (headD_need (l := words d.A) (i := i / 32) hix),
       .eq 31 (eqS (nat_rem i 32)), .prop hwn, .eq 32 (eq32 (shr_u32 (x := (words d.A).getD (i / 32) 0) (i % 32) (by omega))), .eq 33 (eq32 hand), .code hdbl, .call hcmp, .eq 58 (eqB (cmp_lt0 (a := d.X i) (b := d.B) (by omega))),
       .eq 24 (eqS (cnt_top hi60))] (by kernel_rfl)
theorem ndivs_last (hG : Steady G) {d : RDiv} : Goes Tryz.prog G 0 (loopOf Tryz.f134 0) (divInv d 0) (.exit 0) (divInv d 0) :=
  Goes.of_run hG (ro := []) (m := 30) (lay_len ..) [] (by kernel_rfl)
theorem ndivs_loop (hG : Steady G) {d : RDiv} (hd : d.ok) :
    Abs Tryz.prog G 76 0 (.loop (loopOf Tryz.f134 0))
      (lay 76 [(0, rowW (words d.A)), (1, rowW (words d.B)), (6, .slc 0 0 d.la d.la), (7, .slc 1 0 d.N d.N), (8, int (cnt (bl d.A)))] [(0, List.replicate d.la (u32 0)), (1, List.replicate d.N (u32 0))]) (.exit 0) (divInv d 0) := by
  have h := Abs.down (divInv d) (bl d.A) (fun i => lay_len _ _ _) (by simp) (fun i hi => ndivs_round hG hd hi) (ndivs_last hG)
  have e : divInv d (bl d.A) = lay 76 [(0, rowW (words d.A)), (1, rowW (words d.B)), (6, .slc 0 0 d.la d.la), (7, .slc 1 0 d.N d.N), (8, int (cnt (bl d.A)))] [(0, List.replicate d.la (u32 0)), (1, List.replicate d.N (u32 0))] := by
    rw [cel_zero, cel_zero]
    have h0 : d.A / 2 ^ bl d.A = 0 := Nat.div_eq_of_lt (bl_lt _)
    unfold divInv
    have f1 : cel d.la (d.qF (bl d.A)) = cel d.la (fun _ => 0) := cel_congr fun j _ => by unfold RDiv.qF; rw [h0, Nat.zero_div, Nat.zero_mul, Nat.zero_div]
    have f2 : cel d.N (fun j => d.R (bl d.A) / BP j % 4294967296) = cel d.N (fun _ => 0) := cel_congr fun j _ => by unfold RDiv.R; rw [h0, Nat.zero_mod, Nat.zero_div]
    rw [f1, f2]
  rw [e] at h; exact h
theorem rdivide_spec (hG : Steady G) {a b : Nat} (hb0 : 0 < b) (h1 : (words a).length ≤ 2 ^ 36) (h2 : (words b).length ≤ 2 ^ 36) :
    Spec Tryz.prog G 134 [rowW (words a), rowW (words b)] (.tup [rowW (words (a / b)), rowW (words (a % b))]) := by
  have h36 : (2:Nat) ^ 36 = 68719476736 := by decide
  have h40 : (2:Nat) ^ 40 = 1099511627776 := by decide
  have h60 : (2:Nat) ^ 60 = 1152921504606846976 := by decide
  have hd : (RDiv.mk a b).ok := ⟨hb0, h1, by show (words b).length + 1 ≤ _; omega⟩
  have hbl : bl a ≤ 32 * (words a).length := by
    rcases Nat.eq_zero_or_pos a with h | h
    · subst h; exact Nat.zero_le _
    · have h3 := (len_le_iff a _).1 (Nat.le_refl _)
      rcases Nat.lt_or_ge (32 * (words a).length) (bl a) with q | q
      · have h4 := bl_le (x := a) (by omega)
        rw [BP_two] at h3
        have h5 : 2 ^ (32 * (words a).length) ≤ 2 ^ (bl a - 1) := Nat.pow_le_pow_right (by omega) (by omega)
        omega
      · exact q
  have hq : a / b < BP (words a).length := Nat.lt_of_le_of_lt (Nat.div_le_self _ _) ((len_le_iff a _).1 (Nat.le_refl _))
  have hr : a % b < BP ((words b).length + 1) := by
    have := Nat.mod_lt a hb0
    have := (len_le_iff b _).1 (Nat.le_refl _)
    rw [BP_succ]; omega
  have t1 := rtrim_spec (G := G) hG (l := digs (words a).length (a / b)) (digs_dig _ _) (by rw [digs_len]; omega)
  have t2 := rtrim_spec (G := G) hG (l := digs ((words b).length + 1) (a % b)) (digs_dig _ _) (by rw [digs_len]; omega)
  rw [words_digs hq] at t1
  rw [words_digs hr] at t2
  have e1 : D.row (words a).length false (((cel (words a).length (RDiv.qF ⟨a, b⟩ 0)).drop 0).take (words a).length) = rowW (digs (words a).length (a / b)) := by
    rw [← cel_row]
    congr 3
    exact cel_congr fun j _ => by unfold RDiv.qF; simp only [Nat.pow_zero, Nat.div_one, Nat.mul_one]
  have e2 : D.row ((words b).length + 1) false (((cel ((words b).length + 1) (fun j => RDiv.R ⟨a, b⟩ 0 / BP j % 4294967296)).drop 0).take ((words b).length + 1)) = rowW (digs ((words b).length + 1) (a % b)) := by
    rw [← cel_row]
    congr 3
    exact cel_congr fun j _ => by unfold RDiv.R; simp only [Nat.pow_zero, Nat.div_one]
  exact Spec.of_run hG Tryz.func134 (ro := []) (m := 40)
    [.prop (make_need (N := (words a).length) (by omega)), .eq 16 (eqS (nat_succ (i := (words b).length) (by omega))), .prop (make_need (N := (words b).length + 1) (by omega)), .call (rbits_spec hG h1), .eq 20 (eqS (cnt_top (n := bl a) (by omega))),
     .code (ndivs_loop hG hd), .freeze 0, .freeze 1, .eq 72 e1, .call t1, .eq 74 e2, .call t2] (by kernel_rfl)
end Lw
