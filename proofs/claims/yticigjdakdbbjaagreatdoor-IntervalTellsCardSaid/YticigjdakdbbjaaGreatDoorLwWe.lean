/- The reference's text of an integer: the function, run. No condition. -/
import Derived.Test.YticigjdakdbbjaaGreatDoorLwWd
import Derived.Test.YticigjdakdbbjaaGreatDoorLwTs
namespace Lw
open Go Go.RowKit Go.Proofs Go.Lib

variable {G : World → Prop}

/-- The frame of the outer loop. -/
def rtSt (s : Bool) (n v : Nat) (l : List UInt8) : St :=
  lay 73 [(1, .rptr [bool s, rowW (words n)]), (3, rowW (words v)), (4, txt l)] []
/-- The frame of the division. -/
def rtDiv (s : Bool) (n v : Nat) (l : List UInt8) (c : Nat) : St :=
  lay 73 [(1, .rptr [bool s, rowW (words n)]), (3, rowW (words v)), (4, txt l), (5, u64 (v / BP c % 1000000000)), (6, .slc 0 0 (words v).length (words v).length), (7, int (cnt c))] [(0, cel (words v).length (shoF v 1000000000 c))]
/-- The frame behind the division. -/
def rtDivE (s : Bool) (n v : Nat) (l : List UInt8) : St :=
  lay 73 [(1, .rptr [bool s, rowW (words n)]), (3, rowW (words v)), (4, txt l), (5, u64 (v % 1000000000)), (6, .slc 0 0 (words v).length (words v).length), (7, int (cnt 0))] [(0, cel (words v).length (shoF v 1000000000 0))]
theorem rtDiv_zero (s : Bool) (n v : Nat) (l : List UInt8) : rtDiv s n v l 0 = rtDivE s n v l := by
  unfold rtDiv rtDivE
  rw [BP_zero, Nat.div_one]
/-- The frame of the digits. -/
def rtDig (s : Bool) (n q r : Nat) (l : List UInt8) (k : Nat) : St :=
  lay 73 [(1, .rptr [bool s, rowW (words n)]), (3, rowW (words q)), (4, txt (padK k r ++ l)), (5, u64 (r / 10 ^ k)), (8, nat k)] []
theorem b9_lt {x : Nat} (h : x < 1000000000) : x < 4294967296 := by omega
theorem b9_mul {x : Nat} (h : x < 1000000000) : x * 4294967296 < 18446744073709551616 := by omega
theorem b9_add {x y : Nat} (h : x < 1000000000) (hy : y < 4294967296) : x * 4294967296 + y < 18446744073709551616 := by omega
theorem b9_word {y : Nat} (hy : y < 4294967296) : y < 18446744073709551616 := by omega
theorem b9_pos {v : Nat} (h : 0 < v) : 0 < v / 1000000000 ∨ 0 < v % 1000000000 := by omega
theorem rt_div_round (hG : Steady G) {s : Bool} {n v i : Nat} {l : List UInt8} (hi : i < (words v).length) (hb : (words v).length < 2 ^ 60) :
    Goes Tryz.prog G 0 (loopOf Tryz.f90 1) (rtDiv s n v l (i + 1)) .normal (rtDiv s n v l i) := by
  have hl := dig_words v
  have hx := hl.getD i
  obtain ⟨s1, s2, s3⟩ := short_step v i (d := 1000000000) (by omega)
  have hr : v / BP (i + 1) % 1000000000 < 1000000000 := Nat.mod_lt _ (by omega)
  have hg := getD_val hl (i := i)
  rw [val_words] at hg
  rw [← hg] at s1 s2 s3
  have e : rtDiv s n v l i = lay 73 [(1, .rptr [bool s, rowW (words n)]), (3, rowW (words v)), (4, txt l), (5, u64 (v / BP i % 1000000000)), (6, .slc 0 0 (words v).length (words v).length), (7, int (cnt i))]
      [(0, splice (cel (words v).length (shoF v 1000000000 (i + 1))) i [u32 (v / 1000000000 / BP i % 4294967296)])] := by
    unfold rtDiv
    have := downF hi (fun j => v / 1000000000 / BP j % 4294967296)
    have e2 : shoF v 1000000000 (i + 1) = fun j => if i + 1 ≤ j then v / 1000000000 / BP j % 4294967296 else 0 := rfl
    rw [e2, this]; rfl
  rw [e]
  exact Goes.of_run hG (ro := []) (m := 40) (lay_len ..)
    [.eq 24 (eqB (x := decide (Int.ofNat i ≥ 0)) (y := true) (by simp)), .eq 28 (eq64 (shl32 (x := v / BP (i + 1) % 1000000000) (b9_lt hr))), .prop (at_need hi), .prop (load_need hi), .eq 32 (headD_need hi), .eq 33 (eq64 (conv64 hx)),
     .eq 34 (eq64 (x := IntKind.wrap .u64 (((BitVec.ofInt (IntKind.bits .u64) (Int.ofNat (v / BP (i + 1) % 1000000000 * 4294967296)) ||| BitVec.ofInt (IntKind.bits .u64) (Int.ofNat ((words v).getD i 0))).toNat : Nat) : Int))
        (y := Int.ofNat (v / BP (i + 1) % 1000000000 * 4294967296 + (words v).getD i 0)) (by rw [or_bits (b9_mul hr) (b9_word hx), or_add hx])),
     .eq 38 (eq64 (quo64 (s := v / BP (i + 1) % 1000000000 * 4294967296 + (words v).getD i 0) (d := 1000000000) (b9_add hr hx))),
     .eq 39 (eq32 (x := IntKind.wrap .u32 (Int.ofNat ((v / BP (i + 1) % 1000000000 * 4294967296 + (words v).getD i 0) / 1000000000))) (y := Int.ofNat (v / 1000000000 / BP i % 4294967296)) (by rw [conv32, s1])),
     .prop (ix_need hi), .eq 40 (ptr_at 0 i), .prop (p := i + 1 ≤ (cel (words v).length (shoF v 1000000000 (i + 1))).length) (by rw [cel_len]; omega),
     .eq 42 (eq64 (x := (Int.ofNat (v / BP (i + 1) % 1000000000 * 4294967296 + (words v).getD i 0)).tmod (Int.ofNat 1000000000)) (y := Int.ofNat (v / BP i % 1000000000)) (by rw [rem64, s2])),
     .eq 26 (eqS (cnt_top (n := i) (by omega)))] (by kernel_rfl)
theorem rt_div_last (hG : Steady G) {s : Bool} {n v : Nat} {l : List UInt8} : Goes Tryz.prog G 0 (loopOf Tryz.f90 1) (rtDiv s n v l 0) (.exit 2) (rtDiv s n v l 0) :=
  Goes.of_run hG (ro := []) (m := 40) (lay_len ..) [] (by kernel_rfl)
theorem rt_div_loop (hG : Steady G) {s : Bool} {n v : Nat} {l : List UInt8} (hb : (words v).length < 2 ^ 60) :
    Abs Tryz.prog G 73 0 (.loop (loopOf Tryz.f90 1))
      (lay 73 [(1, .rptr [bool s, rowW (words n)]), (3, rowW (words v)), (4, txt l), (5, u64 0), (6, .slc 0 0 (words v).length (words v).length), (7, int (cnt (words v).length))] [(0, List.replicate (words v).length (u32 0))]) (.exit 2) (rtDivE s n v l) := by
  have h := Abs.down (rtDiv s n v l) (words v).length (fun k => lay_len _ _ _) (by simp) (fun i hi => rt_div_round hG hi hb) (rt_div_last hG)
  have hv : v < BP (words v).length := by have := val_lt (dig_words v); rwa [val_words] at this
  have e : rtDiv s n v l (words v).length = lay 73 [(1, .rptr [bool s, rowW (words n)]), (3, rowW (words v)), (4, txt l), (5, u64 0), (6, .slc 0 0 (words v).length (words v).length), (7, int (cnt (words v).length))] [(0, List.replicate (words v).length (u32 0))] := by
    rw [cel_zero]
    unfold rtDiv
    rw [Nat.div_eq_of_lt hv, Nat.zero_mod]
    congr 3
    exact cel_congr fun j hj => by unfold shoF; rw [if_neg (by omega)]
  rw [e, rtDiv_zero] at h; exact h
theorem cut_tx {d : Nat} (h : d < 10) : D.lit (.string ((⟨#[48, 49, 50, 51, 52, 53, 54, 55, 56, 57]⟩ : ByteArray).extract d (d + 1))) = txt [UInt8.ofNat (48 + d)] := by rw [digit_cut h]; rfl
theorem rt_dig_round (hG : Steady G) {s : Bool} {n q r k : Nat} {l : List UInt8} (hr : r < 1000000000) (hk : k < 9) (hp : 0 < r / 10 ^ k ∨ 0 < q) (hl : l.length ≤ 1000000000000) :
    Goes Tryz.prog G 0 (loopOf Tryz.f90 2) (rtDig s n q r l k) .normal (rtDig s n q r l (k + 1)) := by
  have hx : r / 10 ^ k < 1000000000 := Nat.lt_of_le_of_lt (Nat.div_le_self _ _) hr
  have hd : r / 10 ^ k % 10 < 10 := Nat.mod_lt _ (by omega)
  have e60 : (2:Nat) ^ 60 = 1152921504606846976 := by decide
  have ec := cat_tx [UInt8.ofNat (48 + r / 10 ^ k % 10)] (padK k r ++ l)
  have el : [UInt8.ofNat (48 + r / 10 ^ k % 10)] ++ (padK k r ++ l) = padK (k + 1) r ++ l := by rw [padK_front]; rfl
  rw [el] at ec
  have eq : r / 10 ^ k / 10 = r / 10 ^ (k + 1) := by rw [Nat.div_div_eq_div_mul, Nat.pow_succ]
  have e1 : decide (Int.ofNat k < 9) = true := decide_eq_true (by simp only [Int.ofNat_eq_natCast]; omega)
  have e62 : IntKind.wrap .u64 (Int.ofNat (r / 10 ^ k % 10) + 1) = Int.ofNat (r / 10 ^ k % 10 + 1) := by
    have := wrap64 (n := r / 10 ^ k % 10 + 1) (by omega)
    simpa using this
  have e67 : IntKind.wrap .u64 ((Int.ofNat (r / 10 ^ k)).tdiv (Int.ofNat 10)) = Int.ofNat (r / 10 ^ (k + 1)) := by rw [quo64 (by omega), eq]
  have np : (0 : Int) ≤ Int.ofNat (r / 10 ^ k % 10) ∧ Int.ofNat (r / 10 ^ k % 10) ≤ Int.ofNat (r / 10 ^ k % 10 + 1) ∧ Int.ofNat (r / 10 ^ k % 10 + 1) ≤ ((10 : Nat) : Int) := by
    simp only [Int.ofNat_eq_natCast]; omega
  have nc := cat_need [UInt8.ofNat (48 + r / 10 ^ k % 10)] (padK k r ++ l) (by rw [List.length_append, padK_len]; simp only [List.length_cons, List.length_nil]; omega)
  by_cases h : 0 < r / 10 ^ k
  · have e2 : decide (Int.ofNat (r / 10 ^ k) > 0) = true := decide_eq_true (by simp only [Int.ofNat_eq_natCast]; omega)
    exact Goes.of_run hG (ro := []) (m := 40) (lay_len ..)
      [.eq 46 (eqB e1), .eq 49 (eqB e2), .eq 59 (eq64 (rem64 (r / 10 ^ k) 10)), .eq 61 (eq64 (rem64 (r / 10 ^ k) 10)), .eq 62 (eq64 e62), .prop np, .eq 63 (cut_tx hd), .prop nc, .eq 65 ec, .eq 67 (eq64 e67), .eq 57 (eqS (nat_succ (i := k) (by omega)))] (by kernel_rfl)
  · have e2 : decide (Int.ofNat (r / 10 ^ k) > 0) = false := decide_eq_false (by simp only [Int.ofNat_eq_natCast]; omega)
    have e3 := (len_pos_dec q).trans (decide_eq_true (hp.resolve_left h))
    exact Goes.of_run hG (ro := []) (m := 40) (lay_len ..)
      [.eq 46 (eqB e1), .eq 49 (eqB e2), .eq 53 (eqB e3), .eq 59 (eq64 (rem64 (r / 10 ^ k) 10)), .eq 61 (eq64 (rem64 (r / 10 ^ k) 10)), .eq 62 (eq64 e62), .prop np, .eq 63 (cut_tx hd), .prop nc, .eq 65 ec, .eq 67 (eq64 e67), .eq 57 (eqS (nat_succ (i := k) (by omega)))] (by kernel_rfl)
theorem rt_dig_nine (hG : Steady G) {s : Bool} {n q r : Nat} {l : List UInt8} : Goes Tryz.prog G 0 (loopOf Tryz.f90 2) (rtDig s n q r l 9) (.exit 4) (rtDig s n q r l 9) :=
  Goes.of_run hG (ro := []) (m := 40) (lay_len ..) [] (by kernel_rfl)
theorem rt_dig_end (hG : Steady G) {s : Bool} {n r k : Nat} {l : List UInt8} (hk : k < 9) (h : r / 10 ^ k = 0) : Goes Tryz.prog G 0 (loopOf Tryz.f90 2) (rtDig s n 0 r l k) (.exit 4) (rtDig s n 0 r l k) := by
  have e1 : decide (Int.ofNat k < 9) = true := decide_eq_true (by simp only [Int.ofNat_eq_natCast]; omega)
  unfold rtDig
  rw [h]
  exact Goes.of_run hG (ro := []) (m := 40) (lay_len ..) [.eq 46 (eqB e1)] (by kernel_rfl)
/-- How many digits. -/
def digN (q r : Nat) : Nat := if 0 < q then 9 else nDigits r
theorem rt_dig_loop (hG : Steady G) {s : Bool} {n q r : Nat} {l : List UInt8} (hr : r < 1000000000) (hv : 0 < q ∨ 0 < r) (hl : l.length ≤ 1000000000000) :
    Abs Tryz.prog G 73 0 (.loop (loopOf Tryz.f90 2)) (lay 73 [(1, .rptr [bool s, rowW (words n)]), (3, rowW (words q)), (4, txt l), (5, u64 r), (8, nat 0)] []) (.exit 4) (rtDig s n q r l (digN q r)) := by
  have e : rtDig s n q r l 0 = lay 73 [(1, .rptr [bool s, rowW (words n)]), (3, rowW (words q)), (4, txt l), (5, u64 r), (8, nat 0)] [] := by
    unfold rtDig
    rw [Nat.pow_zero, Nat.div_one]; rfl
  rw [← e]
  unfold digN
  by_cases hq : 0 < q
  · rw [if_pos hq]
    exact Abs.count (rtDig s n q r l) 9 (fun k => lay_len _ _ _) (by simp) (fun k hk => rt_dig_round hG hr hk (.inr hq) hl) (rt_dig_nine hG)
  · rw [if_neg hq]
    obtain rfl : q = 0 := by omega
    have h9 : nDigits r ≤ 9 := nDigits_le (by omega) (by omega)
    have hr0 : 0 < r := by omega
    refine Abs.count (rtDig s n 0 r l) (nDigits r) (fun k => lay_len _ _ _) (by simp) (fun k hk => rt_dig_round hG hr (by omega) (.inl ((nDigits_lt hr0).1 hk)) hl) ?_
    rcases Nat.lt_or_ge (nDigits r) 9 with g | g
    · exact rt_dig_end hG g (Nat.div_eq_of_lt (lt_pow_nDigits r))
    · have : nDigits r = 9 := by omega
      rw [this]
      exact rt_dig_nine hG
theorem dig_grp {v : Nat} : padK (digN (v / 1000000000) (v % 1000000000)) (v % 1000000000) = grpOf v := by
  unfold digN grpOf
  by_cases h : v / 1000000000 = 0
  · rw [if_neg (by omega), if_pos h, pad_dec]
  · rw [if_pos (by omega), if_neg h]
theorem rt_round (hG : Steady G) {s : Bool} {n v : Nat} {l : List UInt8} (hv : 0 < v) (hb : (words v).length ≤ 1073741824) (hl : l.length ≤ 1000000000000) :
    Goes Tryz.prog G 0 (loopOf Tryz.f90 0) (rtSt s n v l) .normal (rtSt s n (v / 1000000000) (grpOf v ++ l)) := by
  have h40 : (2:Nat) ^ 40 = 1099511627776 := by decide
  have h60 : (2:Nat) ^ 60 = 1152921504606846976 := by decide
  have e1 := (len_pos_dec v).trans (decide_eq_true hv)
  have hN : (words v).length ≤ 2 ^ 40 := by omega
  have hv' : v < BP (words v).length := by have := val_lt (dig_words v); rwa [val_words] at this
  have hfit : v / 1000000000 < BP (words v).length := Nat.lt_of_le_of_lt (Nat.div_le_self _ _) hv'
  have ht := rtrim_spec (G := G) hG (l := digs (words v).length (v / 1000000000)) (digs_dig _ _) (by rw [digs_len]; exact hN)
  rw [words_digs hfit] at ht
  have hr : v % 1000000000 < 1000000000 := Nat.mod_lt _ (by omega)
  have dl := rt_dig_loop (G := G) hG (s := s) (n := n) (q := v / 1000000000) (r := v % 1000000000) (l := l) hr (by omega) hl
  have eg : rtDig s n (v / 1000000000) (v % 1000000000) l (digN (v / 1000000000) (v % 1000000000)) = lay 73 [(1, .rptr [bool s, rowW (words n)]), (3, rowW (words (v / 1000000000))), (4, txt (grpOf v ++ l)), (5, u64 (v % 1000000000 / 10 ^ (digN (v / 1000000000) (v % 1000000000)))), (8, nat (digN (v / 1000000000) (v % 1000000000)))] [] := by
    unfold rtDig
    rw [dig_grp]
  rw [eg] at dl
  refine Goes.of_run hG (ro := []) (m := 60) (lay_len ..) [.eq 16 (Lw.eqB e1), .prop (make_need hN), .eq 22 (eqS (cnt_top (n := (words v).length) (by omega))), .code (rt_div_loop (s := s) (n := n) (v := v) (l := l) hG (by omega)), .freeze 0,
     .eq 43 (d := D.row (words v).length false (((cel (words v).length (shoF v 1000000000 0)).drop 0).take (words v).length)) (d' := rowW (digs (words v).length (v / 1000000000))) ?_, .call ht,
     .code dl] (by kernel_rfl)
  rw [← cel_row]
  congr 3
end Lw
