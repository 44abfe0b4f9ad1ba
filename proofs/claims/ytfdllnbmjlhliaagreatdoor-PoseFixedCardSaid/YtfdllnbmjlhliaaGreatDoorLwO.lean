/- The walks of differences, comparisons and products of words. No condition. -/
import Derived.Test.YtfdllnbmjlhliaaGreatDoorLwN
namespace Lw
open Go Go.RowKit Go.Proofs

variable {G : World → Prop}

/-! ### less -/
def subw (x y : Nat) : Nat := (x + 18446744073709551616 - y) % 18446744073709551616
theorem wrap_sub {x y : Nat} (h : y ≤ 18446744073709551616) : IntKind.wrap .u64 (Int.ofNat x - Int.ofNat y) = Int.ofNat (subw x y) := by
  rw [wrap64i]; unfold subw; simp only [Int.ofNat_eq_natCast]; omega
theorem subw_hi {x y c : Nat} (hx : x < 4294967296) (hy : y < 4294967296) (hc : c ≤ 1) : subw (subw x y) c / 9223372036854775808 = if x < y + c then 1 else 0 := by
  unfold subw; split <;> omega
theorem subw_lo {x y c : Nat} (hx : x < 4294967296) (hy : y < 4294967296) (hc : c ≤ 1) : ((subw (subw x y) c % 4294967296 : Nat) : Int) = ((x : Int) - y - c) % 4294967296 := by
  unfold subw; omega
def lessF (a b i j : Nat) : Nat := if j < i then (a - b) / BP j % 4294967296 else 0
theorem fillF {N i : Nat} (hi : i < N) (g : Nat → Nat) : splice (cel N (fun j => if j < i then g j else 0)) i [u32 (g i)] = cel N (fun j => if j < i + 1 then g j else 0) := by
  rw [splice_cel _ _ hi]
  refine cel_congr fun j _ => ?_
  by_cases hji : j = i
  · subst hji; simp
  · rw [if_neg hji]; by_cases h : j < i
    · rw [if_pos h, if_pos (by omega)]
    · rw [if_neg h, if_neg (by omega)]
def lessInv (l m : List Nat) (i : Nat) : St :=
  lay 38 [(0, rowW l), (1, rowW m), (5, .slc 0 0 l.length l.length), (6, u64 (cSub (val l) (val m) i)), (13, nat l.length), (14, nat i)] [(0, cel l.length (lessF (val l) (val m) i))]
theorem load64 {l : List Nat} (hl : Dig l) (i : Nat) : IntKind.wrap .u64 (Int.ofNat (l.getD i 0)) = Int.ofNat (l.getD i 0) := wrap64 (by have := hl.getD i; omega)
theorem less_round (hG : Steady G) {l m : List Nat} (hl : Dig l) (hm : Dig m) (hle : val m ≤ val l) {i : Nat} (hi : i < l.length) (hb : l.length < 2 ^ 60) :
    Goes Tryz.prog G 0 (loopOf Tryz.f107 0) (lessInv l m i) .normal (lessInv l m (i + 1)) := by
  have hs := cSub_step (val l) (val m) i
  have hd := cSub_dig hle i
  rw [← getD_val hl, ← getD_val hm] at hs hd
  have h1 := hl.getD i
  have h2 := hm.getD i
  have h3 := cSub_le (val l) (val m) i
  have e : lessInv l m (i + 1) = lay 38 [(0, rowW l), (1, rowW m), (5, .slc 0 0 l.length l.length), (6, u64 (cSub (val l) (val m) (i + 1))), (13, nat l.length), (14, nat (i + 1))]
      [(0, splice (cel l.length (lessF (val l) (val m) i)) i [u32 ((val l - val m) / BP i % 4294967296)])] := by
    unfold lessInv
    have := fillF hi (fun j => (val l - val m) / BP j % 4294967296)
    have e2 : lessF (val l) (val m) i = fun j => if j < i then (val l - val m) / BP j % 4294967296 else 0 := rfl
    rw [e2, this]; rfl
  rw [e]
  exact Goes.of_run hG (ro := []) (m := 30) (lay_len ..)
    [.eq 15 (eqB (lt_true hi)), .prop (at_need hi), .prop (load_need hi), .eq 20 (headD_need hi), .eq 21 (eq64 (load64 hl i)), .call (word_spec hG m hm i),
     .eq 25 (eq64 (x := IntKind.wrap .u64 (Int.ofNat (l.getD i 0) - Int.ofNat (m.getD i 0))) (wrap_sub (by omega))),
     .eq 27 (eq64 (x := IntKind.wrap .u64 (Int.ofNat (subw (l.getD i 0) (m.getD i 0)) - Int.ofNat (cSub (val l) (val m) i))) (wrap_sub (by omega))),
     .eq 31 (eq32 (x := IntKind.wrap .u32 (Int.ofNat (subw (subw (l.getD i 0) (m.getD i 0)) (cSub (val l) (val m) i)))) (y := Int.ofNat ((val l - val m) / BP i % 4294967296)) (by
        rw [show Int.ofNat ((val l - val m) / BP i % 4294967296) = (((val l - val m) / BP i % 4294967296 : Nat) : Int) from rfl, ← hd, ← subw_lo h1 h2 h3]; exact wrap32)),
     .prop (ix_need hi), .eq 32 (ptr_at 0 i), .prop (p := i + 1 ≤ (cel l.length (lessF (val l) (val m) i)).length) (by rw [cel_len]; omega),
     .eq 34 (eq64 (x := (Int.ofNat (subw (subw (l.getD i 0) (m.getD i 0)) (cSub (val l) (val m) i))).fdiv (2 ^ min (Int.toNat 63) (IntKind.bits .u64))) (y := Int.ofNat (cSub (val l) (val m) (i + 1))) (by rw [shr63, subw_hi h1 h2 h3, ← hs])),
     .eq 35 (eqS (nat_succ (i := i) (by omega)))] (by kernel_rfl)
theorem less_last (hG : Steady G) {l m : List Nat} : Goes Tryz.prog G 0 (loopOf Tryz.f107 0) (lessInv l m l.length) (.exit 0) (lessInv l m l.length) :=
  Goes.of_run hG (ro := []) (m := 30) (lay_len ..) [.eq 15 (eqB (lt_false (Nat.le_refl l.length)))] (by kernel_rfl)
theorem less_loop (hG : Steady G) {l m : List Nat} (hl : Dig l) (hm : Dig m) (hle : val m ≤ val l) (hb : l.length < 2 ^ 60) :
    Abs Tryz.prog G 38 0 (.loop (loopOf Tryz.f107 0)) (lay 38 [(0, rowW l), (1, rowW m), (5, .slc 0 0 l.length l.length), (6, u64 0), (13, nat l.length), (14, nat 0)] [(0, List.replicate l.length (u32 0))]) (.exit 0)
      (lessInv l m l.length) := by
  have h := Abs.count (lessInv l m) l.length (fun i => lay_len _ _ _) (by simp) (fun i hi => less_round hG hl hm hle hi hb) (less_last hG)
  have e : lessInv l m 0 = lay 38 [(0, rowW l), (1, rowW m), (5, .slc 0 0 l.length l.length), (6, u64 0), (13, nat l.length), (14, nat 0)] [(0, List.replicate l.length (u32 0))] := by
    rw [cel_zero]; unfold lessInv; rw [cSub_zero]; congr 3
  rw [e] at h; exact h
/-- A difference of words that is not below 0. -/
theorem less_spec (hG : Steady G) {l m : List Nat} (hl : Dig l) (hm : Dig m) (hle : val m ≤ val l) (h1 : l.length ≤ 2 ^ 36) :
    Spec Tryz.prog G 107 [rowW l, rowW m] (rowW (words (val l - val m))) := by
  have h36 : (2:Nat) ^ 36 = 68719476736 := by decide
  have h40 : (2:Nat) ^ 40 = 1099511627776 := by decide
  have hN : l.length ≤ 2 ^ 40 := by omega
  have hfit : val l - val m < BP l.length := Nat.lt_of_le_of_lt (Nat.sub_le _ _) (val_lt hl)
  have ht := trim_spec (G := G) hG (l := digs l.length (val l - val m)) (digs_dig _ _) (by rw [digs_len]; exact hN)
  rw [words_digs hfit] at ht
  refine Spec.of_run hG Tryz.func107 (ro := []) (m := 30) (args := [rowW l, rowW m])
    [.prop (make_need hN), .code (less_loop hG hl hm hle (by omega)), .freeze 0,
     .eq 36 (d := D.row l.length false (((cel l.length (lessF (val l) (val m) l.length)).drop 0).take l.length)) (d' := rowW (digs l.length (val l - val m))) ?_, .call ht] (by kernel_rfl)
  rw [← cel_row]
  congr 3
  exact cel_congr fun j hj => by unfold lessF; rw [if_pos hj]

/-! ### compare -/
def cnt : Nat → Int
  | 0 => -1
  | i + 1 => Int.ofNat i
theorem cnt_eq (c : Nat) : cnt c = (c : Int) - 1 := by
  cases c with
  | zero => rfl
  | succ i => show Int.ofNat i = _; simp
theorem cnt_top {n : Nat} (h : n < 2 ^ 60) : IntKind.wrap .i64 (Int.ofNat n - 1) = cnt n := by
  have h60 : (2:Nat) ^ 60 = 1152921504606846976 := by decide
  rw [wrapS (by simp; omega) (by simp; omega), cnt_eq]; rfl
def cmpI (a b : Nat) : Int := if a < b then -1 else if b < a then 1 else 0
theorem cmp_digit {a b i : Nat} (h : a / BP (i + 1) = b / BP (i + 1)) : (a / BP i % 4294967296 = b / BP i % 4294967296 → a / BP i = b / BP i) ∧ (a / BP i % 4294967296 < b / BP i % 4294967296 → a < b) := by
  rw [div_BP_succ, div_BP_succ] at h
  refine ⟨fun h2 => by omega, fun h2 => ?_⟩
  have h3 : a / BP i < b / BP i := by omega
  rcases Nat.lt_or_ge a b with h4 | h4
  · exact h4
  · have := Nat.div_le_div_right (c := BP i) h4; omega
theorem words_len_lt {a b : Nat} (h : (words a).length < (words b).length) : a < b := by
  rcases Nat.lt_or_ge a b with h4 | h4
  · exact h4
  · exfalso
    have h1 := (len_le_iff a (words a).length).1 (Nat.le_refl _)
    have h2 := (len_le_iff b (words a).length).2 (Nat.lt_of_le_of_lt h4 h1)
    omega
theorem words_getD (a i : Nat) : (words a).getD i 0 = a / BP i % 4294967296 := by rw [getD_val (dig_words a), val_words]
theorem words_end (a : Nat) : a / BP (words a).length = 0 := Nat.div_eq_of_lt ((len_le_iff a _).1 (Nat.le_refl _))
def cmpInv (a b c : Nat) : St := lay 41 [(0, rowW (words a)), (1, rowW (words b)), (5, int (cnt c))] []
theorem cmp_same (hG : Steady G) {a b i : Nat} (h1 : i < (words a).length) (h2 : i < (words b).length) (hd : (words a).getD i 0 = (words b).getD i 0) (hb : (words a).length < 2 ^ 60) :
    Goes Tryz.prog G 0 (loopOf Tryz.f99 0) (cmpInv a b (i + 1)) .normal (cmpInv a b i) :=
  Goes.of_run hG (ro := []) (m := 30) (lay_len ..)
    [.eq 20 (eqB (x := decide (Int.ofNat i ≥ 0)) (y := true) (by simp)), .prop (at_need h1), .prop (load_need h1), .eq 26 (headD_need h1), .prop (at_need h2), .prop (load_need h2), .eq 30 (headD_need h2),
     .eq 31 (eqB (x := Int.ofNat ((words a).getD i 0) != Int.ofNat ((words b).getD i 0)) (y := false) (by rw [hd]; simp)), .eq 22 (eqS (cnt_top (n := i) (by omega)))] (by kernel_rfl)
theorem cmp_lt (hG : Steady G) {a b i : Nat} (h1 : i < (words a).length) (h2 : i < (words b).length) (hd : (words a).getD i 0 < (words b).getD i 0) :
    Goes Tryz.prog G 0 (loopOf Tryz.f99 0) (cmpInv a b (i + 1)) .ret (lay 41 [(4, int (-1))] []) :=
  Goes.of_run hG (ro := []) (m := 30) (lay_len ..)
    [.eq 20 (eqB (x := decide (Int.ofNat i ≥ 0)) (y := true) (by simp)), .prop (at_need h1), .prop (load_need h1), .eq 26 (headD_need h1), .prop (at_need h2), .prop (load_need h2), .eq 30 (headD_need h2),
     .eq 31 (eqB (x := Int.ofNat ((words a).getD i 0) != Int.ofNat ((words b).getD i 0)) (y := true) (by simp only [bne_iff_ne, Int.ofNat_eq_natCast]; omega)),
     .prop (at_need h1), .prop (load_need h1), .eq 35 (headD_need h1), .prop (at_need h2), .prop (load_need h2), .eq 39 (headD_need h2),
     .eq 40 (eqB (x := decide (Int.ofNat ((words a).getD i 0) < Int.ofNat ((words b).getD i 0))) (y := true) (lt_true hd))] (by kernel_rfl)
theorem cmp_gt (hG : Steady G) {a b i : Nat} (h1 : i < (words a).length) (h2 : i < (words b).length) (hd : (words b).getD i 0 < (words a).getD i 0) :
    Goes Tryz.prog G 0 (loopOf Tryz.f99 0) (cmpInv a b (i + 1)) .ret (lay 41 [(4, int 1)] []) :=
  Goes.of_run hG (ro := []) (m := 30) (lay_len ..)
    [.eq 20 (eqB (x := decide (Int.ofNat i ≥ 0)) (y := true) (by simp)), .prop (at_need h1), .prop (load_need h1), .eq 26 (headD_need h1), .prop (at_need h2), .prop (load_need h2), .eq 30 (headD_need h2),
     .eq 31 (eqB (x := Int.ofNat ((words a).getD i 0) != Int.ofNat ((words b).getD i 0)) (y := true) (by simp only [bne_iff_ne, Int.ofNat_eq_natCast]; omega)),
     .prop (at_need h1), .prop (load_need h1), .eq 35 (headD_need h1), .prop (at_need h2), .prop (load_need h2), .eq 39 (headD_need h2),
     .eq 40 (eqB (x := decide (Int.ofNat ((words a).getD i 0) < Int.ofNat ((words b).getD i 0))) (y := false) (lt_false (Nat.le_of_lt hd)))] (by kernel_rfl)
theorem cmp_end (hG : Steady G) {a b : Nat} : Goes Tryz.prog G 0 (loopOf Tryz.f99 0) (cmpInv a b 0) (.exit 0) (cmpInv a b 0) :=
  Goes.of_run hG (ro := []) (m := 30) (lay_len ..) [] (by kernel_rfl)
theorem cmp_loop_eq (hG : Steady G) {a : Nat} (hb : (words a).length < 2 ^ 60) :
    Abs Tryz.prog G 41 0 (.loop (loopOf Tryz.f99 0)) (cmpInv a a (words a).length) (.exit 0) (cmpInv a a 0) :=
  Abs.rounds (fun c => c ≤ (words a).length) (cmpInv a a) id (fun i => lay_len _ _ _) (by simp) (fun c hc => by
    cases c with
    | zero => exact .inr (cmp_end hG)
    | succ i => exact .inl ⟨i, by omega, by simp, cmp_same hG hc hc rfl hb⟩) _ (Nat.le_refl _)
theorem cmp_loop_ne (hG : Steady G) {a b : Nat} (hne : a ≠ b) (hl : (words a).length = (words b).length) (hb : (words a).length < 2 ^ 60) :
    Abs Tryz.prog G 41 0 (.loop (loopOf Tryz.f99 0)) (cmpInv a b (words a).length) .ret (lay 41 [(4, int (cmpI a b))] []) :=
  Abs.rounds (fun c => c ≤ (words a).length ∧ a / BP c = b / BP c) (cmpInv a b) id (fun i => lay_len _ _ _) (by simp) (fun c hc => by
    obtain ⟨hc, he⟩ := hc
    cases c with
    | zero => exact absurd (by rw [BP_zero, Nat.div_one, Nat.div_one] at he; exact he) hne
    | succ i =>
      obtain ⟨d1, d2⟩ := cmp_digit he
      obtain ⟨-, d3⟩ := cmp_digit he.symm
      rw [← words_getD, ← words_getD] at d1 d2 d3
      rcases Nat.lt_trichotomy ((words a).getD i 0) ((words b).getD i 0) with h | h | h
      · right
        have := cmp_lt (G := G) hG hc (by omega) h
        rw [show cmpI a b = -1 by unfold cmpI; rw [if_pos (d2 h)]]; exact this
      · exact .inl ⟨i, ⟨by omega, d1 h⟩, by simp, cmp_same hG hc (by omega) h hb⟩
      · right
        have := cmp_gt (G := G) hG hc (by omega) h
        rw [show cmpI a b = 1 by unfold cmpI; have := d3 h; rw [if_neg (by omega), if_pos this]]; exact this) _ ⟨Nat.le_refl _, by rw [words_end, hl, words_end]⟩
/-- The order of two numbers by their words. -/
theorem compare_spec (hG : Steady G) (a b : Nat) (ha : (words a).length ≤ 2 ^ 36) (hb : (words b).length ≤ 2 ^ 36) :
    Spec Tryz.prog G 99 [rowW (words a), rowW (words b)] (int (cmpI a b)) := by
  have h36 : (2:Nat) ^ 36 = 68719476736 := by decide
  have h60 : (2:Nat) ^ 60 = 1152921504606846976 := by decide
  rcases Nat.lt_trichotomy (words a).length (words b).length with h | h | h
  · have := words_len_lt h
    rw [show cmpI a b = -1 by unfold cmpI; rw [if_pos this]]
    exact Spec.of_run hG Tryz.func99 (ro := []) (m := 30)
      [.eq 10 (eqB (x := Int.ofNat (words a).length != Int.ofNat (words b).length) (y := true) (by simp only [bne_iff_ne, Int.ofNat_eq_natCast]; omega)), .eq 15 (eqB (lt_true h))] (by kernel_rfl)
  · by_cases he : a = b
    · subst he
      rw [show cmpI a a = 0 by unfold cmpI; rw [if_neg (by omega), if_neg (by omega)]]
      exact Spec.of_run hG Tryz.func99 (ro := []) (m := 30)
        [.eq 10 (eqB (x := Int.ofNat (words a).length != Int.ofNat (words a).length) (y := false) (by simp)), .eq 18 (eqS (cnt_top (n := (words a).length) (by omega))), .code (cmp_loop_eq (a := a) hG (by omega))] (by kernel_rfl)
    · exact Spec.of_run hG Tryz.func99 (ro := []) (m := 30)
        [.eq 10 (eqB (x := Int.ofNat (words a).length != Int.ofNat (words b).length) (y := false) (by rw [h]; simp)), .eq 18 (eqS (cnt_top (n := (words a).length) (by omega))), .code (cmp_loop_ne hG he h (by omega))] (by kernel_rfl)
  · have := words_len_lt h
    rw [show cmpI a b = 1 by unfold cmpI; rw [if_neg (by omega), if_pos this]]
    exact Spec.of_run hG Tryz.func99 (ro := []) (m := 30)
      [.eq 10 (eqB (x := Int.ofNat (words a).length != Int.ofNat (words b).length) (y := true) (by simp only [bne_iff_ne, Int.ofNat_eq_natCast]; omega)), .eq 15 (eqB (lt_false (Nat.le_of_lt h)))] (by kernel_rfl)
end Lw
