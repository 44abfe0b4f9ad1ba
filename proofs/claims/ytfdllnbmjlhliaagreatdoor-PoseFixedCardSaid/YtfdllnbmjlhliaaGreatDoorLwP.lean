/- The walk of products of words. No condition. -/
import Derived.Test.YtfdllnbmjlhliaaGreatDoorLwO
namespace Lw
open Go Go.RowKit Go.Proofs

variable {G : World → Prop}

/-! ### times -/
def timT (l m : List Nat) (i : Nat) : Nat := val l % BP i * val m
def timU (l m : List Nat) (i : Nat) : Nat := timT l m i + l.getD i 0 * val m * BP i
theorem timU_eq {l : List Nat} (hl : Dig l) (m : List Nat) (i : Nat) : timU l m i = timT l m (i + 1) := by
  unfold timU timT
  rw [mod_BP_succ, ← getD_val hl, Nat.add_mul, Nat.mul_assoc, Nat.mul_comm (val m) (BP i), ← Nat.mul_assoc, Nat.mul_comm (l.getD i 0), Nat.add_comm]
theorem timU_div (l m : List Nat) (i k : Nat) : timU l m i / BP (i + k) = (timT l m i / BP i + l.getD i 0 * val m) / BP k := by
  unfold timU
  rw [BP_add, ← Nat.div_div_eq_div_mul, Nat.add_mul_div_right _ _ (BP_pos i)]
theorem timT_div (l m : List Nat) (i k : Nat) : timT l m i / BP (i + k) = timT l m i / BP i / BP k := by rw [BP_add, Nat.div_div_eq_div_mul]
theorem timT_lt {l m : List Nat} (hm : Dig m) (i : Nat) (hm0 : 0 < BP m.length) : timT l m i < BP (i + m.length) := by
  unfold timT
  rw [BP_add]
  have h1 := mod_BP_lt (val l) i
  have h2 := val_lt hm
  calc val l % BP i * val m ≤ val l % BP i * BP m.length := Nat.mul_le_mul_left _ (Nat.le_of_lt h2)
    _ < BP i * BP m.length := Nat.mul_lt_mul_of_pos_right h1 hm0
def timF (l m : List Nat) (i k j : Nat) : Nat := if j < i + k then timU l m i / BP j % 4294967296 else timT l m i / BP j % 4294967296
def timC (l m : List Nat) (i k : Nat) : Nat := cMul (timT l m i / BP i) (l.getD i 0) (val m) k
def timN (l m : List Nat) : Nat := l.length + m.length
def timIn (l m : List Nat) (i k : Nat) : St :=
  lay 67 [(0, rowW l), (1, rowW m), (5, .slc 0 0 (timN l m) (timN l m)), (6, nat i), (7, u32 (l.getD i 0)), (8, u64 (timC l m i k)), (17, rowW l), (18, nat l.length), (19, nat i), (24, rowW m), (25, nat m.length), (26, nat k)]
    [(0, cel (timN l m) (timF l m i k))]
theorem nat_add {i k : Nat} (h : i + k < 2 ^ 60) : IntKind.wrap .i64 (Int.ofNat i + Int.ofNat k) = Int.ofNat (i + k) := by
  have h60 : (2:Nat) ^ 60 = 1152921504606846976 := by decide
  rw [wrapS (by simp; omega) (by simp; omega)]; simp
theorem wrap_add {x y : Nat} (h : x + y < 18446744073709551616) : IntKind.wrap .u64 (Int.ofNat x + Int.ofNat y) = Int.ofNat (x + y) := wrap64 (n := x + y) h
theorem wrap_mul {x y : Nat} (h : x * y < 18446744073709551616) : IntKind.wrap .u64 (Int.ofNat x * Int.ofNat y) = Int.ofNat (x * y) := wrap64 (n := x * y) h
theorem conv64 {x : Nat} (h : x < 4294967296) : IntKind.wrap .u64 (Int.ofNat x) = Int.ofNat x := wrap64 (by omega)
theorem conv32 (x : Nat) : IntKind.wrap .u32 (Int.ofNat x) = Int.ofNat (x % 4294967296) := wrap32
theorem mul_lt64 {x y : Nat} (hx : x < 4294967296) (hy : y < 4294967296) : x * y ≤ 18446744065119617025 := by
  have : x * y ≤ 4294967295 * 4294967295 := Nat.mul_le_mul (by omega) (by omega)
  omega
theorem tim_inner (hG : Steady G) {l m : List Nat} (hl : Dig l) (hm : Dig m) {i k : Nat} (hi : i < l.length) (hk : k < m.length) (hb : timN l m < 2 ^ 60) :
    Goes Tryz.prog G 0 (loopOf Tryz.f102 1) (timIn l m i k) .normal (timIn l m i (k + 1)) := by
  have h60 : (2:Nat) ^ 60 = 1152921504606846976 := by decide
  have hN : i + k < timN l m := by unfold timN; omega
  have hx := hl.getD i
  have hy := hm.getD k
  have hs := cMul_step (timT l m i / BP i) (l.getD i 0) (val m) k
  have hd := cMul_dig (timT l m i / BP i) (l.getD i 0) (val m) k
  rw [← getD_val hm, ← timT_div] at hs hd
  rw [← timU_div] at hd
  have hc := cMul_lt (timT l m i / BP i) (val m) k hx
  have hxy := mul_lt64 hx hy
  have ht : timT l m i / BP (i + k) % 4294967296 < 4294967296 := Nat.mod_lt _ (by omega)
  have hF : timF l m i k (i + k) = timT l m i / BP (i + k) % 4294967296 := by unfold timF; rw [if_neg (by omega)]
  have e : timIn l m i (k + 1) = lay 67 [(0, rowW l), (1, rowW m), (5, .slc 0 0 (timN l m) (timN l m)), (6, nat i), (7, u32 (l.getD i 0)), (8, u64 (timC l m i (k + 1))), (17, rowW l), (18, nat l.length), (19, nat i), (24, rowW m), (25, nat m.length), (26, nat (k + 1))]
      [(0, splice (cel (timN l m) (timF l m i k)) (i + k) [u32 (timU l m i / BP (i + k) % 4294967296)])] := by
    rw [splice_cel _ _ hN]
    unfold timIn
    congr 3
    refine cel_congr fun j _ => ?_
    unfold timF
    by_cases hj : j = i + k
    · subst hj; rw [if_pos (by omega), if_pos rfl]
    · rw [if_neg hj]
      by_cases h2 : j < i + k
      · rw [if_pos h2, if_pos (by omega)]
      · rw [if_neg h2, if_neg (by omega)]
  rw [e]
  exact Goes.of_run hG (ro := []) (m := 30) (lay_len ..)
    [.eq 27 (eqB (lt_true hk)), .prop (at_need hk), .prop (load_need hk), .eq 30 (headD_need hk), .eq 33 (eq64 (conv64 hx)), .eq 35 (eq64 (conv64 hy)), .eq 36 (eq64 (wrap_mul (x := l.getD i 0) (y := m.getD k 0) (by omega))),
     .eq 40 (eqS (nat_add (i := i) (k := k) (by omega))), .prop (ix_need hN), .eq 41 (ptr_at 0 (i + k)), .prop (p := 0 < 1 ∧ i + k + 1 ≤ (cel (timN l m) (timF l m i k)).length) (by rw [cel_len]; omega),
     .eq 42 (d := ((cel (timN l m) (timF l m i k)).drop (i + k)).headD .any) (d' := u32 (timT l m i / BP (i + k) % 4294967296)) (by rw [cel_getD hN, hF]), .eq 43 (eq64 (conv64 ht)),
     .eq 44 (eq64 (wrap_add (x := l.getD i 0 * m.getD k 0) (y := timT l m i / BP (i + k) % 4294967296) (by omega))),
     .eq 45 (eq64 (wrap_add (x := timC l m i k) (y := l.getD i 0 * m.getD k 0 + timT l m i / BP (i + k) % 4294967296) (by unfold timC; omega))),
     .eq 49 (eqS (nat_add (i := i) (k := k) (by omega))), .eq 51 (eq32 (x := IntKind.wrap .u32 (Int.ofNat (timC l m i k + (l.getD i 0 * m.getD k 0 + timT l m i / BP (i + k) % 4294967296)))) (y := Int.ofNat (timU l m i / BP (i + k) % 4294967296)) (by rw [conv32, ← hd]; rfl)),
     .prop (ix_need hN), .eq 52 (ptr_at 0 (i + k)), .prop (p := i + k + 1 ≤ (cel (timN l m) (timF l m i k)).length) (by rw [cel_len]; omega),
     .eq 54 (eq64 (x := (Int.ofNat (timC l m i k + (l.getD i 0 * m.getD k 0 + timT l m i / BP (i + k) % 4294967296))).fdiv (2 ^ min (Int.toNat 32) (IntKind.bits .u64))) (y := Int.ofNat (timC l m i (k + 1))) (by rw [shr32]; unfold timC; rw [hs])),
     .eq 55 (eqS (nat_succ (i := k) (by omega)))] (by kernel_rfl)
theorem tim_inner_last (hG : Steady G) {l m : List Nat} {i : Nat} : Goes Tryz.prog G 0 (loopOf Tryz.f102 1) (timIn l m i m.length) (.exit 2) (timIn l m i m.length) :=
  Goes.of_run hG (ro := []) (m := 30) (lay_len ..) [.eq 27 (eqB (lt_false (Nat.le_refl m.length)))] (by kernel_rfl)
def timOut (l m : List Nat) (i : Nat) : St :=
  lay 67 [(0, rowW l), (1, rowW m), (5, .slc 0 0 (timN l m) (timN l m)), (17, rowW l), (18, nat l.length), (19, nat i)] [(0, cel (timN l m) (fun j => timT l m i / BP j % 4294967296))]
theorem tim_inner_loop (hG : Steady G) {l m : List Nat} (hl : Dig l) (hm : Dig m) {i : Nat} (hi : i < l.length) (hb : timN l m < 2 ^ 60) :
    Abs Tryz.prog G 67 0 (.loop (loopOf Tryz.f102 1))
      (lay 67 [(0, rowW l), (1, rowW m), (5, .slc 0 0 (timN l m) (timN l m)), (6, nat i), (7, u32 (l.getD i 0)), (8, u64 0), (17, rowW l), (18, nat l.length), (19, nat i), (24, rowW m), (25, nat m.length), (26, nat 0)]
        [(0, cel (timN l m) (fun j => timT l m i / BP j % 4294967296))]) (.exit 2) (timIn l m i m.length) := by
  have h := Abs.count (timIn l m i) m.length (fun k => lay_len _ _ _) (by simp) (fun k hk => tim_inner hG hl hm hi hk hb) (tim_inner_last hG)
  have e : timIn l m i 0 = lay 67 [(0, rowW l), (1, rowW m), (5, .slc 0 0 (timN l m) (timN l m)), (6, nat i), (7, u32 (l.getD i 0)), (8, u64 0), (17, rowW l), (18, nat l.length), (19, nat i), (24, rowW m), (25, nat m.length), (26, nat 0)]
        [(0, cel (timN l m) (fun j => timT l m i / BP j % 4294967296))] := by
    unfold timIn timC
    rw [cMul_zero]
    congr 3
    refine cel_congr fun j _ => ?_
    unfold timF
    by_cases hj : j < i + 0
    · rw [if_pos hj]
      unfold timU
      have e1 : i = j + (i - j - 1) + 1 := by omega
      have e2 : timT l m i + l.getD i 0 * val m * BP i = timT l m i + (l.getD i 0 * val m * BP (i - j - 1) * 4294967296) * BP j := by
        conv => lhs; arg 2; rw [e1]
        rw [BP_succ, BP_add]
        simp only [Nat.mul_assoc, Nat.mul_comm, Nat.mul_left_comm]
        rw [← e1]
      rw [e2, Nat.add_mul_div_right _ _ (BP_pos j)]; omega
    · rw [if_neg hj]
  rw [e] at h; exact h
theorem tim_outer (hG : Steady G) {l m : List Nat} (hl : Dig l) (hm : Dig m) {i : Nat} (hi : i < l.length) (hb : timN l m < 2 ^ 60) :
    Goes Tryz.prog G 0 (loopOf Tryz.f102 0) (timOut l m i) .normal (timOut l m (i + 1)) := by
  have h60 : (2:Nat) ^ 60 = 1152921504606846976 := by decide
  have hN : i + m.length < timN l m := by unfold timN; omega
  have hT := timT_lt (l := l) hm i (BP_pos _)
  have hx := hl.getD i
  have hC : timC l m i m.length = timU l m i / BP (i + m.length) := by
    unfold timC
    rw [timU_div]
    refine cMul_end ?_ (val_lt hm)
    rw [Nat.div_lt_iff_lt_mul (BP_pos i), ← BP_add, Nat.add_comm]; exact hT
  have hClt : timC l m i m.length < 4294967296 := by unfold timC; exact cMul_lt _ _ _ hx
  have e : timOut l m (i + 1) = lay 67 [(0, rowW l), (1, rowW m), (5, .slc 0 0 (timN l m) (timN l m)), (17, rowW l), (18, nat l.length), (19, nat (i + 1))]
      [(0, splice (cel (timN l m) (timF l m i m.length)) (i + m.length) [u32 (timC l m i m.length % 4294967296)])] := by
    rw [splice_cel _ _ hN]
    unfold timOut
    congr 3
    refine cel_congr fun j _ => ?_
    rw [← timU_eq hl]
    unfold timF
    by_cases hj : j = i + m.length
    · subst hj; rw [if_pos rfl, hC]
    · rw [if_neg hj]
      by_cases h2 : j < i + m.length
      · rw [if_pos h2]
      · rw [if_neg h2]
        have h3 : BP (i + m.length + 1) ≤ BP j := BP_mono (by omega)
        have h4 : timU l m i < BP (i + m.length + 1) := by
          have := hClt
          rw [hC, Nat.div_lt_iff_lt_mul (BP_pos _)] at this
          rw [BP_succ]; exact this
        have h5 : BP (i + m.length) ≤ BP j := BP_mono (by omega)
        rw [Nat.div_eq_of_lt (by omega), Nat.div_eq_of_lt (by omega)]
  rw [e]
  exact Goes.of_run hG (ro := []) (m := 30) (lay_len ..)
    [.eq 20 (eqB (lt_true hi)), .prop (at_need hi), .prop (load_need hi), .eq 23 (headD_need hi), .code (tim_inner_loop hG hl hm hi hb),
     .eq 60 (eqS (nat_add (i := i) (k := m.length) (by omega))), .eq 62 (eq32 (conv32 (timC l m i m.length))), .prop (ix_need hN), .eq 63 (ptr_at 0 (i + m.length)),
     .prop (p := i + m.length + 1 ≤ (cel (timN l m) (timF l m i m.length)).length) (by rw [cel_len]; omega), .eq 64 (eqS (nat_succ (i := i) (by omega)))] (by kernel_rfl)
theorem tim_outer_last (hG : Steady G) {l m : List Nat} : Goes Tryz.prog G 0 (loopOf Tryz.f102 0) (timOut l m l.length) (.exit 0) (timOut l m l.length) :=
  Goes.of_run hG (ro := []) (m := 30) (lay_len ..) [.eq 20 (eqB (lt_false (Nat.le_refl l.length)))] (by kernel_rfl)
theorem tim_loop (hG : Steady G) {l m : List Nat} (hl : Dig l) (hm : Dig m) (hb : timN l m < 2 ^ 60) :
    Abs Tryz.prog G 67 0 (.loop (loopOf Tryz.f102 0))
      (lay 67 [(0, rowW l), (1, rowW m), (5, .slc 0 0 (timN l m) (timN l m)), (17, rowW l), (18, nat l.length), (19, nat 0)] [(0, List.replicate (timN l m) (u32 0))]) (.exit 0) (timOut l m l.length) := by
  have h := Abs.count (timOut l m) l.length (fun k => lay_len _ _ _) (by simp) (fun i hi => tim_outer hG hl hm hi hb) (tim_outer_last hG)
  have e : timOut l m 0 = lay 67 [(0, rowW l), (1, rowW m), (5, .slc 0 0 (timN l m) (timN l m)), (17, rowW l), (18, nat l.length), (19, nat 0)] [(0, List.replicate (timN l m) (u32 0))] := by
    rw [cel_zero]
    unfold timOut timT
    rw [BP_zero, Nat.mod_one, Nat.zero_mul]
    congr 3
    exact cel_congr fun j _ => by rw [Nat.zero_div]
  rw [e] at h; exact h
/-- A product of words. -/
theorem times_spec (hG : Steady G) {l m : List Nat} (hl : Dig l) (hm : Dig m) (h1 : l.length ≤ 2 ^ 36) (h2 : m.length ≤ 2 ^ 36) :
    Spec Tryz.prog G 102 [rowW l, rowW m] (rowW (words (val l * val m))) := by
  have h36 : (2:Nat) ^ 36 = 68719476736 := by decide
  have h40 : (2:Nat) ^ 40 = 1099511627776 := by decide
  have h60 : (2:Nat) ^ 60 = 1152921504606846976 := by decide
  have hN : timN l m ≤ 2 ^ 40 := by unfold timN; omega
  have hT : timT l m l.length = val l * val m := by unfold timT; rw [Nat.mod_eq_of_lt (val_lt hl)]
  have hfit : val l * val m < BP (timN l m) := by rw [← hT]; exact timT_lt hm _ (BP_pos _)
  have ht := trim_spec (G := G) hG (l := digs (timN l m) (val l * val m)) (digs_dig _ _) (by rw [digs_len]; exact hN)
  rw [words_digs hfit] at ht
  refine Spec.of_run hG Tryz.func102 (ro := []) (m := 30) (args := [rowW l, rowW m])
    [.eq 15 (eqS (nat_add (i := l.length) (k := m.length) (by omega))), .prop (make_need hN), .code (tim_loop hG hl hm (by omega)), .freeze 0,
     .eq 65 (d := D.row (timN l m) false (((cel (timN l m) (fun j => timT l m l.length / BP j % 4294967296)).drop 0).take (timN l m))) (d' := rowW (digs (timN l m) (val l * val m))) (by rw [hT]; exact cel_row _ _), .call ht] (by kernel_rfl)
end Lw
