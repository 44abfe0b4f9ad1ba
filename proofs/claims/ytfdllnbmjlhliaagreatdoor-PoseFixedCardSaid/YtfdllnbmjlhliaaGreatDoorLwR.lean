/- The walks of shifts of words. No condition. -/
import Derived.Test.YtfdllnbmjlhliaaGreatDoorLwQ
namespace Lw
open Go Go.RowKit Go.Proofs

variable {G : World → Prop}

theorem or_bits32 {x y : Nat} (hx : x < 4294967296) (hy : y < 4294967296) :
    IntKind.wrap .u32 (((BitVec.ofInt (IntKind.bits .u32) (Int.ofNat x) ||| BitVec.ofInt (IntKind.bits .u32) (Int.ofNat y)).toNat : Nat) : Int) = Int.ofNat (x ||| y) := by
  have e : ∀ z : Nat, z < 4294967296 → (BitVec.ofInt (IntKind.bits .u32) (Int.ofNat z)).toNat = z := by
    intro z hz
    show (BitVec.ofInt 32 (Int.ofNat z)).toNat = z
    simp only [Int.ofNat_eq_natCast, BitVec.ofInt_natCast, BitVec.toNat_ofNat]
    exact Nat.mod_eq_of_lt (by simpa using hz)
  rw [BitVec.toNat_or, e x hx, e y hy]
  have := Nat.or_lt_two_pow (n := 32) (x := x) (y := y) (by simpa using hx) (by simpa using hy)
  have h2 := wrap32 (n := x ||| y)
  rw [Nat.mod_eq_of_lt (by simpa using this)] at h2
  exact h2
theorem or_low {n x y : Nat} (hy : y < 2 ^ n) : y ||| x * 2 ^ n = y + x * 2 ^ n := by
  have := Nat.two_pow_add_eq_or_of_lt (i := n) (b := y) hy x
  rw [Nat.or_comm, Nat.mul_comm, ← this, Nat.add_comm]
theorem pow_le31 {n : Nat} (h : n ≤ 31) : 2 ^ n ≤ 2147483648 := by
  have := Nat.pow_le_pow_right (n := 2) (by omega) h
  simpa using this
theorem pow_split {n : Nat} (h : n ≤ 32) : (4294967296 : Nat) = 2 ^ (32 - n) * 2 ^ n := by
  rw [← Nat.pow_add, show 32 - n + n = 32 by omega]
theorem shl_n {x n : Nat} (hx : x < 4294967296) (hn : n ≤ 31) : IntKind.wrap .u64 (Int.ofNat x * 2 ^ min (Int.ofNat n).toNat (IntKind.bits .u64)) = Int.ofNat (x * 2 ^ n) := by
  have e : min (Int.ofNat n).toNat (IntKind.bits .u64) = n := by
    show min n 64 = n
    omega
  have e2 : (2:Int) ^ n = Int.ofNat (2 ^ n) := by simp
  rw [e, e2]
  refine wrap_mul ?_
  have h1 := pow_le31 hn
  have : x * 2 ^ n ≤ 4294967295 * 2147483648 := Nat.mul_le_mul (by omega) h1
  omega
theorem shr_n {x n : Nat} (hn : n ≤ 31) : (Int.ofNat x).fdiv (2 ^ min (Int.ofNat n).toNat (IntKind.bits .u64)) = Int.ofNat (x / 2 ^ n) := by
  have e : min (Int.ofNat n).toNat (IntKind.bits .u64) = n := by
    show min n 64 = n
    omega
  rw [e, fdiv_pow]
theorem nn_need (n : Nat) : (0:Int) ≤ Int.ofNat n := by simp

/-! ### up -/
def upT (l : List Nat) (n i : Nat) : Nat := val l % BP i * 2 ^ n
theorem upT_succ {l : List Nat} (hl : Dig l) (n i : Nat) : upT l n (i + 1) = upT l n i + l.getD i 0 * 2 ^ n * BP i := by
  unfold upT
  rw [mod_BP_succ, ← getD_val hl, Nat.add_mul, Nat.add_comm, Nat.mul_comm (BP i), Nat.mul_assoc, Nat.mul_assoc, Nat.mul_comm (BP i)]
theorem upT_div (l : List Nat) (n i : Nat) : upT l n i / BP i < 2 ^ n := by
  unfold upT
  rw [Nat.div_lt_iff_lt_mul (BP_pos i), Nat.mul_comm (2 ^ n)]
  exact Nat.mul_lt_mul_of_pos_right (mod_BP_lt _ _) (Nat.pow_pos (by omega))
theorem up_low {l : List Nat} (hl : Dig l) {n : Nat} (hn : n ≤ 31) (i : Nat) : upT l n i / BP i % 4294967296 ||| l.getD i 0 * 2 ^ n % 4294967296 = upT l n (i + 1) / BP i % 4294967296 := by
  have h1 := upT_div l n i
  have h2 := pow_le31 hn
  have e : l.getD i 0 * 2 ^ n % 4294967296 = (l.getD i 0 % 2 ^ (32 - n)) * 2 ^ n := by
    rw [pow_split (n := n) (by omega), Nat.mul_mod_mul_right]
  rw [upT_succ hl, Nat.add_mul_div_right _ _ (BP_pos i), Nat.mod_eq_of_lt (a := upT l n i / BP i) (by omega), e, or_low h1, ← e]
  have h3 : l.getD i 0 * 2 ^ n % 4294967296 + 2 ^ n ≤ 4294967296 := by
    rw [e]
    have h4 : l.getD i 0 % 2 ^ (32 - n) + 1 ≤ 2 ^ (32 - n) := Nat.mod_lt _ (Nat.pow_pos (by omega))
    have h5 := Nat.mul_le_mul_right (2 ^ n) h4
    rw [← pow_split (n := n) (by omega), Nat.add_mul, Nat.one_mul] at h5
    exact h5
  generalize upT l n i / BP i = c at *
  omega
theorem up_high {l : List Nat} (hl : Dig l) {n : Nat} (hn : n ≤ 31) (i : Nat) : l.getD i 0 * 2 ^ n / 4294967296 = upT l n (i + 1) / BP (i + 1) ∧ l.getD i 0 * 2 ^ n / 4294967296 < 4294967296 := by
  have h1 := upT_div l n i
  have h2 := pow_le31 hn
  have hx := hl.getD i
  have h3 : l.getD i 0 * 2 ^ n ≤ 4294967295 * 2147483648 := Nat.mul_le_mul (by omega) h2
  rw [div_BP_succ, upT_succ hl, Nat.add_mul_div_right _ _ (BP_pos i)]
  have e : l.getD i 0 * 2 ^ n % 4294967296 = (l.getD i 0 % 2 ^ (32 - n)) * 2 ^ n := by
    rw [pow_split (n := n) (by omega), Nat.mul_mod_mul_right]
  have h3 : l.getD i 0 * 2 ^ n % 4294967296 + 2 ^ n ≤ 4294967296 := by
    rw [e]
    have h4 : l.getD i 0 % 2 ^ (32 - n) + 1 ≤ 2 ^ (32 - n) := Nat.mod_lt _ (Nat.pow_pos (by omega))
    have h5 := Nat.mul_le_mul_right (2 ^ n) h4
    rw [← pow_split (n := n) (by omega), Nat.add_mul, Nat.one_mul] at h5
    exact h5
  generalize upT l n i / BP i = c at *
  omega
def upN (l : List Nat) : Nat := l.length + 1
def upInv (l : List Nat) (n i : Nat) : St :=
  lay 41 [(0, rowW l), (1, nat n), (5, .slc 0 0 (upN l) (upN l)), (13, rowW l), (14, nat l.length), (15, nat i)] [(0, cel (upN l) (fun j => upT l n i / BP j % 4294967296))]
theorem up_round (hG : Steady G) {l : List Nat} (hl : Dig l) {n i : Nat} (hn : n ≤ 31) (hi : i < l.length) (hb : l.length < 2 ^ 60) :
    Goes Tryz.prog G 0 (loopOf Tryz.f149 0) (upInv l n i) .normal (upInv l n (i + 1)) := by
  have hx := hl.getD i
  have hN : i < upN l := by unfold upN; omega
  have hN2 : i + 1 < upN l := by unfold upN; omega
  obtain ⟨g1, g2⟩ := up_high hl hn i
  have e : upInv l n (i + 1) = lay 41 [(0, rowW l), (1, nat n), (5, .slc 0 0 (upN l) (upN l)), (13, rowW l), (14, nat l.length), (15, nat (i + 1))]
      [(0, splice (splice (cel (upN l) (fun j => upT l n i / BP j % 4294967296)) i [u32 (upT l n (i + 1) / BP i % 4294967296)]) (i + 1) [u32 (l.getD i 0 * 2 ^ n / 4294967296 % 4294967296)])] := by
    rw [splice_cel _ _ hN, splice_cel _ _ hN2]
    unfold upInv
    congr 3
    refine cel_congr fun j _ => ?_
    by_cases hj : j = i + 1
    · subst hj; rw [if_pos rfl, g1]
    · rw [if_neg hj]
      by_cases hj2 : j = i
      · subst hj2; rw [if_pos rfl]
      · rw [if_neg hj2]
        rcases Nat.lt_or_ge j i with h | h
        · rw [upT_succ hl]
          have e1 : i = j + (i - j - 1) + 1 := by omega
          have e2 : upT l n i + l.getD i 0 * 2 ^ n * BP i = upT l n i + (l.getD i 0 * 2 ^ n * BP (i - j - 1) * 4294967296) * BP j := by
            have : BP i = 4294967296 * (BP j * BP (i - j - 1)) := by conv => lhs; rw [e1, BP_succ, BP_add]
            rw [this]
            simp only [Nat.mul_assoc, Nat.mul_comm, Nat.mul_left_comm]
          rw [e2, Nat.add_mul_div_right _ _ (BP_pos j)]; omega
        · have h1 : i + 2 ≤ j := by omega
          have h3 : upT l n (i + 1) < BP j := by
            have h4 := g2
            rw [g1, Nat.div_lt_iff_lt_mul (BP_pos _), ← BP_succ] at h4
            exact Nat.lt_of_lt_of_le h4 (BP_mono h1)
          have h5 : upT l n i ≤ upT l n (i + 1) := by rw [upT_succ hl]; exact Nat.le_add_right _ _
          rw [Nat.div_eq_of_lt h3, Nat.div_eq_of_lt (by omega)]
  rw [e]
  have hlen : ∀ v, (splice (cel (upN l) (fun j => upT l n i / BP j % 4294967296)) i [u32 v]).length = upN l := fun v => by rw [splice_cel _ _ hN, cel_len]
  have hy : l.getD i 0 * 2 ^ n < 18446744073709551616 := by
    have : l.getD i 0 * 2 ^ n ≤ 4294967295 * 2147483648 := Nat.mul_le_mul (by omega) (pow_le31 hn)
    omega
  exact Goes.of_run hG (ro := []) (m := 30) (lay_len ..)
    [.eq 16 (eqB (lt_true hi)), .prop (at_need hi), .prop (load_need hi), .eq 19 (headD_need hi), .eq 21 (eq64 (conv64 hx)), .prop (nn_need n), .eq 23 (eq64 (shl_n hx hn)),
     .prop (ix_need hN), .eq 26 (ptr_at 0 i), .prop (p := 0 < 1 ∧ i + 1 ≤ (cel (upN l) (fun j => upT l n i / BP j % 4294967296)).length) (by rw [cel_len]; omega),
     .eq 27 (d := ((cel (upN l) (fun j => upT l n i / BP j % 4294967296)).drop i).headD .any) (d' := u32 (upT l n i / BP i % 4294967296)) (cel_getD hN),
     .eq 29 (eq32 (conv32 (l.getD i 0 * 2 ^ n))),
     .eq 30 (eq32 (x := IntKind.wrap .u32 (((BitVec.ofInt (IntKind.bits .u32) (Int.ofNat (upT l n i / BP i % 4294967296)) ||| BitVec.ofInt (IntKind.bits .u32) (Int.ofNat (l.getD i 0 * 2 ^ n % 4294967296))).toNat : Nat) : Int))
        (y := Int.ofNat (upT l n (i + 1) / BP i % 4294967296)) (by rw [or_bits32 (Nat.mod_lt _ (by omega)) (Nat.mod_lt _ (by omega)), up_low hl hn])),
     .prop (ix_need hN), .eq 31 (ptr_at 0 i), .prop (p := i + 1 ≤ (cel (upN l) (fun j => upT l n i / BP j % 4294967296)).length) (by rw [cel_len]; omega),
     .eq 34 (eqS (nat_succ (i := i) (by omega))), .eq 36 (eq64 (shr32 (l.getD i 0 * 2 ^ n))), .eq 37 (eq32 (conv32 (l.getD i 0 * 2 ^ n / 4294967296))), .prop (ix_need hN2), .eq 38 (ptr_at 0 (i + 1)),
     .prop (p := i + 1 + 1 ≤ (splice (cel (upN l) (fun j => upT l n i / BP j % 4294967296)) i [u32 (upT l n (i + 1) / BP i % 4294967296)]).length) (by rw [hlen]; omega),
     .eq 39 (eqS (nat_succ (i := i) (by omega)))] (by kernel_rfl)
theorem up_last (hG : Steady G) {l : List Nat} {n : Nat} : Goes Tryz.prog G 0 (loopOf Tryz.f149 0) (upInv l n l.length) (.exit 0) (upInv l n l.length) :=
  Goes.of_run hG (ro := []) (m := 30) (lay_len ..) [.eq 16 (eqB (lt_false (Nat.le_refl l.length)))] (by kernel_rfl)
theorem up_loop (hG : Steady G) {l : List Nat} (hl : Dig l) {n : Nat} (hn : n ≤ 31) (hb : l.length < 2 ^ 60) :
    Abs Tryz.prog G 41 0 (.loop (loopOf Tryz.f149 0))
      (lay 41 [(0, rowW l), (1, nat n), (5, .slc 0 0 (upN l) (upN l)), (13, rowW l), (14, nat l.length), (15, nat 0)] [(0, List.replicate (upN l) (u32 0))]) (.exit 0) (upInv l n l.length) := by
  have h := Abs.count (upInv l n) l.length (fun k => lay_len _ _ _) (by simp) (fun i hi => up_round hG hl hn hi hb) (up_last hG)
  have e : upInv l n 0 = lay 41 [(0, rowW l), (1, nat n), (5, .slc 0 0 (upN l) (upN l)), (13, rowW l), (14, nat l.length), (15, nat 0)] [(0, List.replicate (upN l) (u32 0))] := by
    rw [cel_zero]
    unfold upInv upT
    rw [BP_zero, Nat.mod_one, Nat.zero_mul]
    congr 3
    exact cel_congr fun j _ => by rw [Nat.zero_div]
  rw [e] at h; exact h
/-- Words shifted up, over a new row. -/
theorem up_spec (hG : Steady G) {l : List Nat} (hl : Dig l) {n : Nat} (hn : n ≤ 31) (h1 : l.length ≤ 2 ^ 36) :
    SpecN Tryz.prog G 149 [rowW l, nat n] (l.length + 1) ((digs (l.length + 1) (val l * 2 ^ n)).map u32) := by
  have h36 : (2:Nat) ^ 36 = 68719476736 := by decide
  have h40 : (2:Nat) ^ 40 = 1099511627776 := by decide
  have h60 : (2:Nat) ^ 60 = 1152921504606846976 := by decide
  have hN : upN l ≤ 2 ^ 40 := by unfold upN; omega
  have hT : upT l n l.length = val l * 2 ^ n := by unfold upT; rw [Nat.mod_eq_of_lt (val_lt hl)]
  rw [← cel_digs, ← hT]
  exact SpecN.of_run hG Tryz.func149 (k := (Tryz.f149.body).getD .skip) rfl (t := 4) (ro := []) (m := 30) (e := .ret) (b := 0) (Nat.le_of_ble_eq_true rfl) rfl
    [.eq 11 (eqS (nat_succ (i := l.length) (by omega))), .prop (make_need hN), .code (up_loop hG hl hn (by omega))] (by kernel_rfl) (.inr rfl)

/-! ### down -/
theorem down_dig {l : List Nat} (hl : Dig l) {n : Nat} (hn : n ≤ 31) (i : Nat) : (l.getD i 0 + l.getD (i + 1) 0 * 4294967296) / 2 ^ n % 4294967296 = val l / 2 ^ n / BP i % 4294967296 := by
  have hp : 0 < 2 ^ n := Nat.pow_pos (by omega)
  rw [getD_val hl, getD_val hl, div_BP_succ, Nat.div_div_eq_div_mul (val l) (2 ^ n), Nat.mul_comm (2 ^ n), ← Nat.div_div_eq_div_mul]
  generalize val l / BP i = A
  have e : A = 2 ^ n * (4294967296 * (2 ^ (32 - n) * (A / 4294967296 / 4294967296))) + (A % 4294967296 + A / 4294967296 % 4294967296 * 4294967296) := by
    have h1 : 2 ^ n * (4294967296 * (2 ^ (32 - n) * (A / 4294967296 / 4294967296))) = 4294967296 * (4294967296 * (A / 4294967296 / 4294967296)) := by
      have h2 : 4294967296 * (2 ^ (32 - n) * (A / 4294967296 / 4294967296)) = 2 ^ (32 - n) * (4294967296 * (A / 4294967296 / 4294967296)) := Nat.mul_left_comm _ _ _
      rw [h2, ← Nat.mul_assoc, Nat.mul_comm (2 ^ n), ← pow_split (n := n) (by omega)]
    rw [h1]; omega
  conv => rhs; rw [e]
  rw [add_mul_div_pos hp]; omega
def dowF (a n i j : Nat) : Nat := if j < i then a / 2 ^ n / BP j % 4294967296 else 0
def dowInv (l : List Nat) (n i : Nat) : St :=
  lay 35 [(0, rowW l), (1, nat n), (5, .slc 0 0 l.length l.length), (11, nat l.length), (12, nat i)] [(0, cel l.length (dowF (val l) n i))]
theorem dow_round (hG : Steady G) {l : List Nat} (hl : Dig l) {n i : Nat} (hn : n ≤ 31) (hi : i < l.length) (hb : l.length < 2 ^ 60) :
    Goes Tryz.prog G 0 (loopOf Tryz.f152 0) (dowInv l n i) .normal (dowInv l n (i + 1)) := by
  have hx := hl.getD i
  have hy := hl.getD (i + 1)
  have e : dowInv l n (i + 1) = lay 35 [(0, rowW l), (1, nat n), (5, .slc 0 0 l.length l.length), (11, nat l.length), (12, nat (i + 1))]
      [(0, splice (cel l.length (dowF (val l) n i)) i [u32 (val l / 2 ^ n / BP i % 4294967296)])] := by
    unfold dowInv
    have := fillF hi (fun j => val l / 2 ^ n / BP j % 4294967296)
    have e2 : dowF (val l) n i = fun j => if j < i then val l / 2 ^ n / BP j % 4294967296 else 0 := rfl
    rw [e2, this]; rfl
  rw [e]
  exact Goes.of_run hG (ro := []) (m := 30) (lay_len ..)
    [.eq 13 (eqB (lt_true hi)), .prop (at_need hi), .prop (load_need hi), .eq 20 (headD_need hi), .eq 21 (eq64 (conv64 hx)), .eq 24 (eqS (nat_succ (i := i) (by omega))), .call (word_spec hG l hl (i + 1)), .eq 26 (eq64 (shl32 hy)),
     .eq 27 (eq64 (x := IntKind.wrap .u64 (((BitVec.ofInt (IntKind.bits .u64) (Int.ofNat (l.getD i 0)) ||| BitVec.ofInt (IntKind.bits .u64) (Int.ofNat (l.getD (i + 1) 0 * 4294967296))).toNat : Nat) : Int))
        (y := Int.ofNat (l.getD i 0 + l.getD (i + 1) 0 * 4294967296)) (by rw [or_bits (by omega) (by omega), Nat.or_comm, or_add hx, Nat.add_comm])),
     .prop (nn_need n), .eq 29 (eq64 (shr_n (x := l.getD i 0 + l.getD (i + 1) 0 * 4294967296) hn)), .eq 30 (eq32 (x := IntKind.wrap .u32 (Int.ofNat ((l.getD i 0 + l.getD (i + 1) 0 * 4294967296) / 2 ^ n))) (y := Int.ofNat (val l / 2 ^ n / BP i % 4294967296)) (by rw [conv32, down_dig hl hn])),
     .prop (ix_need hi), .eq 31 (ptr_at 0 i), .prop (p := i + 1 ≤ (cel l.length (dowF (val l) n i)).length) (by rw [cel_len]; omega), .eq 32 (eqS (nat_succ (i := i) (by omega)))] (by kernel_rfl)
theorem dow_last (hG : Steady G) {l : List Nat} {n : Nat} : Goes Tryz.prog G 0 (loopOf Tryz.f152 0) (dowInv l n l.length) (.exit 0) (dowInv l n l.length) :=
  Goes.of_run hG (ro := []) (m := 30) (lay_len ..) [.eq 13 (eqB (lt_false (Nat.le_refl l.length)))] (by kernel_rfl)
theorem dow_loop (hG : Steady G) {l : List Nat} (hl : Dig l) {n : Nat} (hn : n ≤ 31) (hb : l.length < 2 ^ 60) :
    Abs Tryz.prog G 35 0 (.loop (loopOf Tryz.f152 0))
      (lay 35 [(0, rowW l), (1, nat n), (5, .slc 0 0 l.length l.length), (11, nat l.length), (12, nat 0)] [(0, List.replicate l.length (u32 0))]) (.exit 0) (dowInv l n l.length) := by
  have h := Abs.count (dowInv l n) l.length (fun k => lay_len _ _ _) (by simp) (fun i hi => dow_round hG hl hn hi hb) (dow_last hG)
  have e : dowInv l n 0 = lay 35 [(0, rowW l), (1, nat n), (5, .slc 0 0 l.length l.length), (11, nat l.length), (12, nat 0)] [(0, List.replicate l.length (u32 0))] := by
    rw [cel_zero]; rfl
  rw [e] at h; exact h
/-- Words shifted down. -/
theorem down_spec (hG : Steady G) {l : List Nat} (hl : Dig l) {n : Nat} (hn : n ≤ 31) (h1 : l.length ≤ 2 ^ 37) :
    Spec Tryz.prog G 152 [rowW l, nat n] (rowW (words (val l / 2 ^ n))) := by
  have h37 : (2:Nat) ^ 37 = 137438953472 := by decide
  have h40 : (2:Nat) ^ 40 = 1099511627776 := by decide
  have h60 : (2:Nat) ^ 60 = 1152921504606846976 := by decide
  have hN : l.length ≤ 2 ^ 40 := by omega
  have hfit : val l / 2 ^ n < BP l.length := Nat.lt_of_le_of_lt (Nat.div_le_self _ _) (val_lt hl)
  have ht := trim_spec (G := G) hG (l := digs l.length (val l / 2 ^ n)) (digs_dig _ _) (by rw [digs_len]; exact hN)
  rw [words_digs hfit] at ht
  refine Spec.of_run hG Tryz.func152 (ro := []) (m := 30) (args := [rowW l, nat n])
    [.prop (make_need hN), .code (dow_loop hG hl hn (by omega)), .freeze 0,
     .eq 33 (d := D.row l.length false (((cel l.length (dowF (val l) n l.length)).drop 0).take l.length)) (d' := rowW (digs l.length (val l / 2 ^ n))) ?_, .call ht] (by kernel_rfl)
  rw [← cel_row]
  congr 3
  exact cel_congr fun j hj => by unfold dowF; rw [if_pos hj]
end Lw
