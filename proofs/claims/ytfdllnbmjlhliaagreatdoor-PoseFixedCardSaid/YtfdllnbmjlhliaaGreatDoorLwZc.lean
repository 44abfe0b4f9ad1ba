/- The contracts of the reference's integers: differences, order. No condition. -/
import Derived.Test.YtfdllnbmjlhliaaGreatDoorLwZb
namespace Lw
open Go Go.RowKit Go.Proofs

variable {G : World → Prop}

/-! ### minus -/
theorem wrap_less {x y : Nat} (h : y ≤ x) (hx : x < 18446744073709551616) : IntKind.wrap .u64 (Int.ofNat x - Int.ofNat y) = Int.ofNat (x - y) := by
  rw [wrap64i]; simp only [Int.ofNat_eq_natCast]; omega
/-- The word before the borrow is taken from it. -/
def brw (x y c : Nat) : Nat := 4294967296 + x - y - c
theorem brw_dig {a b i : Nat} (h : b ≤ a) : brw (a / BP i % 4294967296) (b / BP i % 4294967296) (cSub a b i) % 4294967296 = (a - b) / BP i % 4294967296 := by
  have h1 := cSub_dig h i
  have h2 : a / BP i % 4294967296 < 4294967296 := Nat.mod_lt _ (by omega)
  have h3 : b / BP i % 4294967296 < 4294967296 := Nat.mod_lt _ (by omega)
  have h4 := cSub_le a b i
  have h5 : (a - b) / BP i % 4294967296 < 4294967296 := Nat.mod_lt _ (by omega)
  unfold brw
  generalize a / BP i % 4294967296 = x at *
  generalize b / BP i % 4294967296 = y at *
  generalize (a - b) / BP i % 4294967296 = z at *
  generalize cSub a b i = c at *
  omega
theorem brw_next {a b i : Nat} : 1 - brw (a / BP i % 4294967296) (b / BP i % 4294967296) (cSub a b i) / 4294967296 = cSub a b (i + 1) := by
  rw [cSub_step]
  have h2 : a / BP i % 4294967296 < 4294967296 := Nat.mod_lt _ (by omega)
  have h3 : b / BP i % 4294967296 < 4294967296 := Nat.mod_lt _ (by omega)
  have h4 := cSub_le a b i
  unfold brw
  generalize a / BP i % 4294967296 = x at *
  generalize b / BP i % 4294967296 = y at *
  generalize cSub a b i = c at *
  split <;> omega
theorem add32 {x : Nat} (h : x < 4294967296) : IntKind.wrap .u64 (4294967296 + Int.ofNat x) = Int.ofNat (4294967296 + x) := by
  rw [wrap64i]; simp only [Int.ofNat_eq_natCast]; omega
theorem one_less {q : Nat} (h : q ≤ 1) : IntKind.wrap .u64 (1 - Int.ofNat q) = Int.ofNat (1 - q) := by
  rw [wrap64i]; simp only [Int.ofNat_eq_natCast]; omega
theorem brw_one {x y c : Nat} (h : x < 4294967296) : brw x y c / 4294967296 ≤ 1 := by unfold brw; omega
def rminusInv (l m : List Nat) : Nat → St
  | 0 => lay 35 [(0, rowW l), (1, rowW m), (5, .row 0 true []), (6, u64 0), (10, nat l.length), (11, nat 0)] []
  | i + 1 => lay 35 [(0, rowW l), (1, rowW m), (5, .gsl 0 (i + 1) 1), (6, u64 (cSub (val l) (val m) (i + 1))), (10, nat l.length), (11, nat (i + 1))] [(0, (digs (i + 1) (val l - val m)).map u32)]
theorem rminus_round (hG : Steady G) {l m : List Nat} (hl : Dig l) (hm : Dig m) (hle : val m ≤ val l) {i : Nat} (hi : i < l.length) (hb : l.length < 2 ^ 40) :
    Goes Tryz.prog G 0 (loopOf Tryz.f128 0) (rminusInv l m i) .normal (rminusInv l m (i + 1)) := by
  have h40 : (2:Nat) ^ 40 = 1099511627776 := by decide
  have h60 : (2:Nat) ^ 60 = 1152921504606846976 := by decide
  have hd := brw_dig (i := i) hle
  have hn := brw_next (a := val l) (b := val m) (i := i)
  rw [← getD_val hl, ← getD_val hm] at hd hn
  have h1 := hl.getD i
  have h2 := hm.getD i
  have h3 := cSub_le (val l) (val m) i
  have hq := brw_one (x := l.getD i 0) (y := m.getD i 0) (c := cSub (val l) (val m) i) h1
  have e32 : IntKind.wrap .u32 (Int.ofNat (brw (l.getD i 0) (m.getD i 0) (cSub (val l) (val m) i))) = Int.ofNat ((val l - val m) / BP i % 4294967296) := by rw [conv32, hd]
  have eb : IntKind.wrap .u64 (1 - Int.ofNat (brw (l.getD i 0) (m.getD i 0) (cSub (val l) (val m) i) / 4294967296)) = Int.ofNat (cSub (val l) (val m) (i + 1)) := by rw [one_less hq, hn]
  have e23 : IntKind.wrap .u64 (Int.ofNat (4294967296 + l.getD i 0 - m.getD i 0) - Int.ofNat (cSub (val l) (val m) i)) = Int.ofNat (brw (l.getD i 0) (m.getD i 0) (cSub (val l) (val m) i)) := wrap_less (by omega) (by omega)
  have e21 : IntKind.wrap .u64 (Int.ofNat (4294967296 + l.getD i 0) - Int.ofNat (m.getD i 0)) = Int.ofNat (4294967296 + l.getD i 0 - m.getD i 0) := wrap_less (by omega) (by omega)
  cases i with
  | zero =>
    rw [cSub_zero] at e32 eb e23
    have e : rminusInv l m (0 + 1) = lay 35 [(0, rowW l), (1, rowW m), (5, .gsl 0 (0 + 1) 1), (6, u64 (cSub (val l) (val m) (0 + 1))), (10, nat l.length), (11, nat (0 + 1))] [(0, [] ++ [u32 ((val l - val m) / BP 0 % 4294967296)])] := by
      show lay 35 _ _ = _
      rw [← digs_map_snoc]; rfl
    rw [e]; clear e
    exact Goes.of_run hG (ro := []) (m := 30) (lay_len ..)
      [.eq 12 (eqB (lt_true hi)), .call (at_spec hG l hl 0), .eq 17 (eq64 (add32 h1)), .call (at_spec hG m hm 0), .eq 21 (eq64 e21), .eq 23 (eq64 e23), .eq 26 (eq32 e32),
       .prop (grow_need (n := 0) (cs := []) (x := u32 ((val l - val m) / BP 0 % 4294967296)) rfl (by omega)), .eq 30 (eq64 (shr32 (brw (l.getD 0 0) (m.getD 0 0) 0))), .eq 31 (eq64 eb), .eq 32 (eqS (nat_succ (i := 0) (by omega)))] (by kernel_rfl)
  | succ i =>
    have e : rminusInv l m (i + 1 + 1) = lay 35 [(0, rowW l), (1, rowW m), (5, .gsl 0 (i + 1 + 1) 1), (6, u64 (cSub (val l) (val m) (i + 1 + 1))), (10, nat l.length), (11, nat (i + 1 + 1))] [(0, (digs (i + 1) (val l - val m)).map u32 ++ [u32 ((val l - val m) / BP (i + 1) % 4294967296)])] := by
      show lay 35 _ _ = _
      rw [digs_map_snoc]
    rw [e]; clear e
    exact Goes.of_run hG (ro := []) (m := 30) (lay_len ..)
      [.eq 12 (eqB (lt_true hi)), .call (at_spec hG l hl (i + 1)), .eq 17 (eq64 (add32 h1)), .call (at_spec hG m hm (i + 1)), .eq 21 (eq64 e21), .eq 23 (eq64 e23), .eq 26 (eq32 e32),
       .prop (grow_need (n := i + 1) (cs := (digs (i + 1) (val l - val m)).map u32) (x := u32 ((val l - val m) / BP (i + 1) % 4294967296)) (by rw [List.length_map, digs_len]) (by omega)),
       .eq 30 (eq64 (shr32 (brw (l.getD (i + 1) 0) (m.getD (i + 1) 0) (cSub (val l) (val m) (i + 1))))), .eq 31 (eq64 eb), .eq 32 (eqS (nat_succ (i := i + 1) (by omega)))] (by kernel_rfl)
theorem rminus_last (hG : Steady G) {l m : List Nat} {k : Nat} (hk : l.length = k + 1) : Goes Tryz.prog G 0 (loopOf Tryz.f128 0) (rminusInv l m (k + 1)) (.exit 0) (rminusInv l m (k + 1)) :=
  Goes.of_run hG (ro := []) (m := 30) (lay_len ..) [.eq 12 (eqB (lt_false (i := k + 1) (N := l.length) (by omega)))] (by kernel_rfl)
theorem rminus_loop (hG : Steady G) {l m : List Nat} (hl : Dig l) (hm : Dig m) (hle : val m ≤ val l) (hb : l.length < 2 ^ 40) {k : Nat} (hk : l.length = k + 1) :
    Abs Tryz.prog G 35 0 (.loop (loopOf Tryz.f128 0)) (lay 35 [(0, rowW l), (1, rowW m), (5, .row 0 true []), (6, u64 0), (10, nat l.length), (11, nat 0)] []) (.exit 0)
      (rminusInv l m (k + 1)) :=
  Abs.count (rminusInv l m) (k + 1) (fun i => by cases i <;> exact lay_len _ _ _) (by simp) (fun i hi => rminus_round hG hl hm hle (by omega) hb) (rminus_last hG hk)
theorem rminus_spec (hG : Steady G) {l m : List Nat} (hl : Dig l) (hm : Dig m) (hle : val m ≤ val l) (h1 : l.length ≤ 2 ^ 36) :
    Spec Tryz.prog G 128 [rowW l, rowW m] (rowW (words (val l - val m))) := by
  have h36 : (2:Nat) ^ 36 = 68719476736 := by decide
  have h40 : (2:Nat) ^ 40 = 1099511627776 := by decide
  have hfit : val l - val m < BP l.length := Nat.lt_of_le_of_lt (Nat.sub_le _ _) (val_lt hl)
  have ht := rtrim_spec (G := G) hG (l := digs l.length (val l - val m)) (digs_dig _ _) (by rw [digs_len]; omega)
  rw [words_digs hfit] at ht
  cases hk : l.length with
  | zero =>
    have : l = [] := List.eq_nil_of_length_eq_zero hk
    subst this
    have ht : Spec Tryz.prog G 135 [rowW []] (rowW (words (val [] - val m))) := ht
    exact Spec.of_run hG Tryz.func128 (ro := []) (m := 30) [.call ht] (by kernel_rfl)
  | succ k =>
    rw [hk] at ht
    refine Spec.of_run hG Tryz.func128 (ro := []) (m := 30) (args := [rowW l, rowW m])
      [.code (rminus_loop hG hl hm hle (by omega) hk), .freeze 0,
       .eq 33 (d := D.row (k + 1) false (((digs (k + 1) (val l - val m)).map u32).take ((k + 1) * 1))) (d' := rowW (digs (k + 1) (val l - val m))) ?_, .call ht] (by kernel_rfl)
    unfold rowW
    rw [List.take_of_length_le (by simp [digs_len]), digs_len]

/-! ### compare -/
def rcmpInv (l m : List Nat) (c : Nat) : St := lay 30 [(0, rowW l), (1, rowW m), (5, int (cnt c))] []
theorem rcmp_same (hG : Steady G) {l m : List Nat} (hl : Dig l) (hm : Dig m) {i : Nat} (hd : l.getD i 0 = m.getD i 0) (hi : i < 2 ^ 60) :
    Goes Tryz.prog G 0 (loopOf Tryz.f127 0) (rcmpInv l m (i + 1)) .normal (rcmpInv l m i) :=
  Goes.of_run hG (ro := []) (m := 30) (lay_len ..)
    [.eq 13 (eqB (x := decide (Int.ofNat i ≥ 0)) (y := true) (by simp)), .call (at_spec hG l hl i), .call (at_spec hG m hm i), .eq 22 (eqB (x := (Int.ofNat (l.getD i 0) != Int.ofNat (m.getD i 0))) (y := false) (by rw [hd]; simp)),
     .eq 15 (eqS (cnt_top hi))] (by kernel_rfl)
theorem rcmp_lt (hG : Steady G) {l m : List Nat} (hl : Dig l) (hm : Dig m) {i : Nat} (hd : l.getD i 0 < m.getD i 0) :
    Goes Tryz.prog G 0 (loopOf Tryz.f127 0) (rcmpInv l m (i + 1)) .ret (lay 30 [(4, int (-1))] []) :=
  Goes.of_run hG (ro := []) (m := 30) (lay_len ..)
    [.eq 13 (eqB (x := decide (Int.ofNat i ≥ 0)) (y := true) (by simp)), .call (at_spec hG l hl i), .call (at_spec hG m hm i), .eq 22 (eqB (x := (Int.ofNat (l.getD i 0) != Int.ofNat (m.getD i 0))) (y := true) (by rw [bne_iff_ne]; simp only [Int.ofNat_eq_natCast]; omega)),
     .call (at_spec hG l hl i), .call (at_spec hG m hm i), .eq 29 (eqB (x := decide (Int.ofNat (l.getD i 0) < Int.ofNat (m.getD i 0))) (y := true) (by simp only [Int.ofNat_eq_natCast, decide_eq_true_eq]; omega))] (by kernel_rfl)
theorem rcmp_gt (hG : Steady G) {l m : List Nat} (hl : Dig l) (hm : Dig m) {i : Nat} (hd : m.getD i 0 < l.getD i 0) :
    Goes Tryz.prog G 0 (loopOf Tryz.f127 0) (rcmpInv l m (i + 1)) .ret (lay 30 [(4, int 1)] []) :=
  Goes.of_run hG (ro := []) (m := 30) (lay_len ..)
    [.eq 13 (eqB (x := decide (Int.ofNat i ≥ 0)) (y := true) (by simp)), .call (at_spec hG l hl i), .call (at_spec hG m hm i), .eq 22 (eqB (x := (Int.ofNat (l.getD i 0) != Int.ofNat (m.getD i 0))) (y := true) (by rw [bne_iff_ne]; simp only [Int.ofNat_eq_natCast]; omega)),
     .call (at_spec hG l hl i), .call (at_spec hG m hm i), .eq 29 (eqB (x := decide (Int.ofNat (l.getD i 0) < Int.ofNat (m.getD i 0))) (y := false) (by simp only [Int.ofNat_eq_natCast, decide_eq_false_iff_not]; omega))] (by kernel_rfl)
theorem rcmp_end (hG : Steady G) {l m : List Nat} : Goes Tryz.prog G 0 (loopOf Tryz.f127 0) (rcmpInv l m 0) (.exit 0) (rcmpInv l m 0) :=
  Goes.of_run hG (ro := []) (m := 30) (lay_len ..) [] (by kernel_rfl)
theorem rcmp_loop_eq (hG : Steady G) {l m : List Nat} (hl : Dig l) (hm : Dig m) (he : val l = val m) {N : Nat} (hN : N < 2 ^ 60) :
    Abs Tryz.prog G 30 0 (.loop (loopOf Tryz.f127 0)) (lay 30 [(0, rowW l), (1, rowW m), (5, int (cnt N))] []) (.exit 0) (rcmpInv l m 0) :=
  Abs.down (rcmpInv l m) N (fun i => lay_len _ _ _) (by simp) (fun i hi => rcmp_same hG hl hm (by rw [getD_val hl, getD_val hm, he]) (by omega)) (rcmp_end hG)
theorem rcmp_loop_ne (hG : Steady G) {l m : List Nat} (hl : Dig l) (hm : Dig m) (hne : val l ≠ val m) {N : Nat} (hN : N < 2 ^ 60) (hh : val l / BP N = val m / BP N) :
    Abs Tryz.prog G 30 0 (.loop (loopOf Tryz.f127 0)) (lay 30 [(0, rowW l), (1, rowW m), (5, int (cnt N))] []) .ret (lay 30 [(4, int (cmpI (val l) (val m)))] []) := by
  refine Abs.rounds (fun c : Nat => c < 2 ^ 60 ∧ val l / BP c = val m / BP c) (rcmpInv l m) (fun c => c) (fun m => lay_len _ _ _) (by simp) (fun c hc => ?_) N ⟨hN, hh⟩
  obtain ⟨h1, h2⟩ := hc
  cases c with
  | zero => rw [BP_zero, Nat.div_one, Nat.div_one] at h2; exact absurd h2 hne
  | succ i =>
    obtain ⟨d1, d2⟩ := cmp_digit h2
    obtain ⟨-, d3⟩ := cmp_digit h2.symm
    have hi : i < 2 ^ 60 := by omega
    rcases Nat.lt_trichotomy (l.getD i 0) (m.getD i 0) with h | h | h
    · right
      have hlt := d2 (by rw [← getD_val hl, ← getD_val hm]; exact h)
      have e : cmpI (val l) (val m) = -1 := by unfold cmpI; rw [if_pos hlt]
      rw [e]
      exact rcmp_lt hG hl hm h
    · left
      exact ⟨i, ⟨hi, d1 (by rw [← getD_val hl, ← getD_val hm]; exact h)⟩, by omega, rcmp_same hG hl hm h hi⟩
    · right
      have hlt := d3 (by rw [← getD_val hl, ← getD_val hm]; exact h)
      have e : cmpI (val l) (val m) = 1 := by unfold cmpI; rw [if_neg (by omega), if_pos hlt]
      rw [e]
      exact rcmp_gt hG hl hm h
theorem cmpI_self (a : Nat) : cmpI a a = 0 := by unfold cmpI; rw [if_neg (by omega), if_neg (by omega)]
theorem rcompare_spec (hG : Steady G) {l m : List Nat} (hl : Dig l) (hm : Dig m) (h1 : l.length ≤ 2 ^ 40) (h2 : m.length ≤ 2 ^ 40) :
    Spec Tryz.prog G 127 [rowW l, rowW m] (int (cmpI (val l) (val m))) := by
  have h40 : (2:Nat) ^ 40 = 1099511627776 := by decide
  have h60 : (2:Nat) ^ 60 = 1152921504606846976 := by decide
  have hN : max l.length m.length < 2 ^ 60 := by omega
  by_cases he : val l = val m
  · rw [he, cmpI_self]
    exact Spec.of_run hG Tryz.func127 (ro := []) (m := 30)
      [.eq 10 (eqS (max_len l m)), .eq 11 (eqS (cnt_top hN)), .code (rcmp_loop_eq hG hl hm he hN)] (by kernel_rfl)
  · have hh : val l / BP (max l.length m.length) = val m / BP (max l.length m.length) := by
      have a := val_lt hl
      have b := val_lt hm
      have h3 : BP l.length ≤ BP (max l.length m.length) := BP_mono (Nat.le_max_left _ _)
      have h4 : BP m.length ≤ BP (max l.length m.length) := BP_mono (Nat.le_max_right _ _)
      rw [Nat.div_eq_of_lt (by omega), Nat.div_eq_of_lt (by omega)]
    exact Spec.of_run hG Tryz.func127 (ro := []) (m := 30)
      [.eq 10 (eqS (max_len l m)), .eq 11 (eqS (cnt_top hN)), .code (rcmp_loop_ne hG hl hm he hN hh)] (by kernel_rfl)
end Lw
