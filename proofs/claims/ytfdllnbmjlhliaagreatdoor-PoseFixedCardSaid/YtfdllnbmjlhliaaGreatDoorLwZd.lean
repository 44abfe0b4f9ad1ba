/- The contracts of the reference's integers: products, bits. No condition. -/
import Derived.Test.YtfdllnbmjlhliaaGreatDoorLwZc
namespace Lw
open Go Go.RowKit Go.Proofs

variable {G : World → Prop}

/-! ### times -/
def rtimIn (l m : List Nat) (i k : Nat) : St :=
  lay 68 [(0, rowW l), (1, rowW m), (5, .slc 0 0 (timN l m) (timN l m)), (6, nat i), (7, u64 (timC l m i k)), (17, nat l.length), (18, nat i), (22, nat m.length), (23, nat k)]
    [(0, cel (timN l m) (timF l m i k))]
theorem rtim_inner (hG : Steady G) {l m : List Nat} (hl : Dig l) (hm : Dig m) {i k : Nat} (hi : i < l.length) (hk : k < m.length) (hb : timN l m < 2 ^ 60) :
    Goes Tryz.prog G 0 (loopOf Tryz.f125 1) (rtimIn l m i k) .normal (rtimIn l m i (k + 1)) := by
  have h60 : (2:Nat) ^ 60 = 1152921504606846976 := by decide
  have hN : i + k < timN l m := by unfold timN; omega
  have hx := hl.getD i
  have hy := hm.getD k
  have hs := cMul_step (timT l m i / BP i) (l.getD i 0) (val m) k
  have hd := cMul_dig (timT l m i / BP i) (l.getD i 0) (val m) k
  rw [← getD_val hm, ← timT_div] at hs hd
  rw [← timU_div] at hd
  have hc := cMul_lt (timT l m i / BP i) (val m) k hx
  have hxy := mul_lt64 hx hy
  have ht : timT l m i / BP (i + k) % 4294967296 < 4294967296 := Nat.mod_lt _ (by omega)
  have hF : timF l m i k (i + k) = timT l m i / BP (i + k) % 4294967296 := by unfold timF; rw [if_neg (by omega)]
  have e : rtimIn l m i (k + 1) = lay 68 [(0, rowW l), (1, rowW m), (5, .slc 0 0 (timN l m) (timN l m)), (6, nat i), (7, u64 (timC l m i (k + 1))), (17, nat l.length), (18, nat i), (22, nat m.length), (23, nat (k + 1))]
      [(0, splice (cel (timN l m) (timF l m i k)) (i + k) [u32 (timU l m i / BP (i + k) % 4294967296)])] := by
    rw [splice_cel _ _ hN]
    unfold rtimIn
    congr 3
    refine cel_congr fun j _ => ?_
    unfold timF
    by_cases hj : j = i + k
    · subst hj; rw [if_pos (by omega), if_pos rfl]
    · rw [if_neg hj]
      by_cases h2 : j < i + k
      · rw [if_pos h2, if_pos (by omega)]
      · rw [if_neg h2, if_neg (by omega)]
  rw [e]; clear e
  exact Goes.of_run hG (ro := []) (m := 30) (lay_len ..)
    [.eq 24 (eqB (lt_true hk)), .prop (at_need hi), .prop (load_need hi), .eq 29 (headD_need hi), .eq 30 (eq64 (conv64 hx)), .prop (at_need hk), .prop (load_need hk), .eq 34 (headD_need hk), .eq 35 (eq64 (conv64 hy)),
     .eq 36 (eq64 (wrap_mul (x := l.getD i 0) (y := m.getD k 0) (by omega))),
     .eq 40 (eqS (nat_add (i := i) (k := k) (by omega))), .prop (ix_need hN), .eq 41 (ptr_at 0 (i + k)), .prop (p := 0 < 1 ∧ i + k + 1 ≤ (cel (timN l m) (timF l m i k)).length) (by rw [cel_len]; omega),
     .eq 42 (d := ((cel (timN l m) (timF l m i k)).drop (i + k)).headD .any) (d' := u32 (timT l m i / BP (i + k) % 4294967296)) (by rw [cel_getD hN, hF]), .eq 43 (eq64 (conv64 ht)),
     .eq 44 (eq64 (wrap_add (x := l.getD i 0 * m.getD k 0) (y := timT l m i / BP (i + k) % 4294967296) (by omega))),
     .eq 46 (eq64 (x := IntKind.wrap .u64 (Int.ofNat (l.getD i 0 * m.getD k 0 + timT l m i / BP (i + k) % 4294967296) + Int.ofNat (timC l m i k))) (y := Int.ofNat (timC l m i k + (l.getD i 0 * m.getD k 0 + timT l m i / BP (i + k) % 4294967296)))
       (by rw [Nat.add_comm (timC l m i k)]; exact wrap_add (x := l.getD i 0 * m.getD k 0 + timT l m i / BP (i + k) % 4294967296) (y := timC l m i k) (by unfold timC; omega))),
     .eq 50 (eqS (nat_add (i := i) (k := k) (by omega))), .eq 52 (eq32 (x := IntKind.wrap .u32 (Int.ofNat (timC l m i k + (l.getD i 0 * m.getD k 0 + timT l m i / BP (i + k) % 4294967296)))) (y := Int.ofNat (timU l m i / BP (i + k) % 4294967296)) (by rw [conv32, ← hd]; rfl)),
     .eq 54 (eq64 (x := (Int.ofNat (timC l m i k + (l.getD i 0 * m.getD k 0 + timT l m i / BP (i + k) % 4294967296))).fdiv (2 ^ min (Int.toNat 32) (IntKind.bits .u64))) (y := Int.ofNat (timC l m i (k + 1))) (by rw [shr32]; unfold timC; rw [hs])),
     .prop (ix_need hN), .eq 55 (ptr_at 0 (i + k)), .prop (p := i + k + 1 ≤ (cel (timN l m) (timF l m i k)).length) (by rw [cel_len]; omega),
     .eq 56 (eqS (nat_succ (i := k) (by omega)))] (by kernel_rfl)
theorem rtim_inner_last (hG : Steady G) {l m : List Nat} {i : Nat} : Goes Tryz.prog G 0 (loopOf Tryz.f125 1) (rtimIn l m i m.length) (.exit 2) (rtimIn l m i m.length) :=
  Goes.of_run hG (ro := []) (m := 30) (lay_len ..) [.eq 24 (eqB (lt_false (Nat.le_refl m.length)))] (by kernel_rfl)
def rtimOut (l m : List Nat) (i : Nat) : St :=
  lay 68 [(0, rowW l), (1, rowW m), (5, .slc 0 0 (timN l m) (timN l m)), (17, nat l.length), (18, nat i)] [(0, cel (timN l m) (fun j => timT l m i / BP j % 4294967296))]
theorem rtim_inner_loop (hG : Steady G) {l m : List Nat} (hl : Dig l) (hm : Dig m) {i : Nat} (hi : i < l.length) (hb : timN l m < 2 ^ 60) :
    Abs Tryz.prog G 68 0 (.loop (loopOf Tryz.f125 1))
      (lay 68 [(0, rowW l), (1, rowW m), (5, .slc 0 0 (timN l m) (timN l m)), (6, nat i), (7, u64 0), (17, nat l.length), (18, nat i), (22, nat m.length), (23, nat 0)]
        [(0, cel (timN l m) (fun j => timT l m i / BP j % 4294967296))]) (.exit 2) (rtimIn l m i m.length) := by
  have h := Abs.count (rtimIn l m i) m.length (fun k => lay_len _ _ _) (by simp) (fun k hk => rtim_inner hG hl hm hi hk hb) (rtim_inner_last hG)
  have e : rtimIn l m i 0 = lay 68 [(0, rowW l), (1, rowW m), (5, .slc 0 0 (timN l m) (timN l m)), (6, nat i), (7, u64 0), (17, nat l.length), (18, nat i), (22, nat m.length), (23, nat 0)]
        [(0, cel (timN l m) (fun j => timT l m i / BP j % 4294967296))] := by
    unfold rtimIn timC
    rw [cMul_zero]
    congr 3
    refine cel_congr fun j _ => ?_
    unfold timF
    by_cases hj : j < i + 0
    · rw [if_pos hj]
      unfold timU
      have e1 : i = j + (i - j - 1) + 1 := by omega
      have e2 : timT l m i + l.getD i 0 * val m * BP i = timT l m i + (l.getD i 0 * val m * BP (i - j - 1) * 4294967296) * BP j := by
        conv => lhs; arg 2; rw [e1]
        rw [BP_succ, BP_add]
        simp only [Nat.mul_assoc, Nat.mul_comm, Nat.mul_left_comm]
        rw [← e1]
      rw [e2, Nat.add_mul_div_right _ _ (BP_pos j)]; omega
    · rw [if_neg hj]
  rw [e] at h; exact h
theorem rtim_outer (hG : Steady G) {l m : List Nat} (hl : Dig l) (hm : Dig m) {i : Nat} (hi : i < l.length) (hb : timN l m < 2 ^ 60) :
    Goes Tryz.prog G 0 (loopOf Tryz.f125 0) (rtimOut l m i) .normal (rtimOut l m (i + 1)) := by
  have h60 : (2:Nat) ^ 60 = 1152921504606846976 := by decide
  have hN : i + m.length < timN l m := by unfold timN; omega
  have hT := timT_lt (l := l) hm i (BP_pos _)
  have hx := hl.getD i
  have hC : timC l m i m.length = timU l m i / BP (i + m.length) := by
    unfold timC
    rw [timU_div]
    refine cMul_end ?_ (val_lt hm)
    rw [Nat.div_lt_iff_lt_mul (BP_pos i), ← BP_add, Nat.add_comm]; exact hT
  have hClt : timC l m i m.length < 4294967296 := by unfold timC; exact cMul_lt _ _ _ hx
  have e : rtimOut l m (i + 1) = lay 68 [(0, rowW l), (1, rowW m), (5, .slc 0 0 (timN l m) (timN l m)), (17, nat l.length), (18, nat (i + 1))]
      [(0, splice (cel (timN l m) (timF l m i m.length)) (i + m.length) [u32 (timC l m i m.length % 4294967296)])] := by
    rw [splice_cel _ _ hN]
    unfold rtimOut
    congr 3
    refine cel_congr fun j _ => ?_
    rw [← timU_eq hl]
    unfold timF
    by_cases hj : j = i + m.length
    · subst hj; rw [if_pos rfl, hC]
    · rw [if_neg hj]
      by_cases h2 : j < i + m.length
      · rw [if_pos h2]
      · rw [if_neg h2]
        have h3 : BP (i + m.length + 1) ≤ BP j := BP_mono (by omega)
        have h4 : timU l m i < BP (i + m.length + 1) := by
          have := hClt
          rw [hC, Nat.div_lt_iff_lt_mul (BP_pos _)] at this
          rw [BP_succ]; exact this
        have h5 : BP (i + m.length) ≤ BP j := BP_mono (by omega)
        rw [Nat.div_eq_of_lt (by omega), Nat.div_eq_of_lt (by omega)]
  rw [e]
  exact Goes.of_run hG (ro := []) (m := 30) (lay_len ..)
    [.eq 19 (eqB (lt_true hi)), .code (rtim_inner_loop hG hl hm hi hb),
     .eq 61 (eqS (nat_add (i := i) (k := m.length) (by omega))), .eq 63 (eq32 (conv32 (timC l m i m.length))), .prop (ix_need hN), .eq 64 (ptr_at 0 (i + m.length)),
     .prop (p := i + m.length + 1 ≤ (cel (timN l m) (timF l m i m.length)).length) (by rw [cel_len]; omega), .eq 65 (eqS (nat_succ (i := i) (by omega)))] (by kernel_rfl)
theorem rtim_outer_last (hG : Steady G) {l m : List Nat} : Goes Tryz.prog G 0 (loopOf Tryz.f125 0) (rtimOut l m l.length) (.exit 0) (rtimOut l m l.length) :=
  Goes.of_run hG (ro := []) (m := 30) (lay_len ..) [.eq 19 (eqB (lt_false (Nat.le_refl l.length)))] (by kernel_rfl)
theorem rtim_loop (hG : Steady G) {l m : List Nat} (hl : Dig l) (hm : Dig m) (hb : timN l m < 2 ^ 60) :
    Abs Tryz.prog G 68 0 (.loop (loopOf Tryz.f125 0))
      (lay 68 [(0, rowW l), (1, rowW m), (5, .slc 0 0 (timN l m) (timN l m)), (17, nat l.length), (18, nat 0)] [(0, List.replicate (timN l m) (u32 0))]) (.exit 0) (rtimOut l m l.length) := by
  have h := Abs.count (rtimOut l m) l.length (fun k => lay_len _ _ _) (by simp) (fun i hi => rtim_outer hG hl hm hi hb) (rtim_outer_last hG)
  have e : rtimOut l m 0 = lay 68 [(0, rowW l), (1, rowW m), (5, .slc 0 0 (timN l m) (timN l m)), (17, nat l.length), (18, nat 0)] [(0, List.replicate (timN l m) (u32 0))] := by
    rw [cel_zero]
    unfold rtimOut timT
    rw [BP_zero, Nat.mod_one, Nat.zero_mul]
    congr 3
    exact cel_congr fun j _ => by rw [Nat.zero_div]
  rw [e] at h; exact h
/-- A product of words. -/
theorem rtimes_spec (hG : Steady G) {l m : List Nat} (hl : Dig l) (hm : Dig m) (h1 : l.length ≤ 2 ^ 36) (h2 : m.length ≤ 2 ^ 36) :
    Spec Tryz.prog G 125 [rowW l, rowW m] (rowW (words (val l * val m))) := by
  have h36 : (2:Nat) ^ 36 = 68719476736 := by decide
  have h40 : (2:Nat) ^ 40 = 1099511627776 := by decide
  have h60 : (2:Nat) ^ 60 = 1152921504606846976 := by decide
  have hN : timN l m ≤ 2 ^ 40 := by unfold timN; omega
  have hT : timT l m l.length = val l * val m := by unfold timT; rw [Nat.mod_eq_of_lt (val_lt hl)]
  have hfit : val l * val m < BP (timN l m) := by rw [← hT]; exact timT_lt hm _ (BP_pos _)
  have ht := rtrim_spec (G := G) hG (l := digs (timN l m) (val l * val m)) (digs_dig _ _) (by rw [digs_len]; omega)
  rw [words_digs hfit] at ht
  refine Spec.of_run hG Tryz.func125 (ro := []) (m := 30) (args := [rowW l, rowW m])
    [.eq 14 (eqS (nat_add (i := l.length) (k := m.length) (by omega))), .prop (make_need hN), .code (rtim_loop hG hl hm (by omega)), .freeze 0,
     .eq 66 (d := D.row (timN l m) false (((cel (timN l m) (fun j => timT l m l.length / BP j % 4294967296)).drop 0).take (timN l m))) (d' := rowW (digs (timN l m) (val l * val m))) (by rw [hT]; exact cel_row _ _), .call ht] (by kernel_rfl)

/-! ### bits -/
def rbitsInv (b x : Nat) : St := lay 25 [(3, nat (b - bl x)), (4, u32 x)] []
theorem bl_half {x : Nat} (h : 0 < x) : bl x = bl (x / 2) + 1 := by
  rcases Nat.lt_or_ge x 2 with h2 | h2
  · have : x = 1 := by omega
    subst this; rfl
  · have := bl_shift (x := x) (k := 1) h2
    rwa [show 2 ^ 1 = 2 from rfl] at this
theorem bl_zero : bl 0 = 0 := rfl
theorem shr_one (x : Nat) : (Int.ofNat x).fdiv (2 ^ min (Int.toNat 1) (IntKind.bits .u32)) = Int.ofNat (x / 2) := shr_u32 (x := x) 1 (by omega)
theorem rbits_round (hG : Steady G) {b x : Nat} (hx : 0 < x) (hb : bl x ≤ b) (hb' : b < 2 ^ 59) :
    Goes Tryz.prog G 0 (loopOf Tryz.f153 0) (rbitsInv b x) .normal (rbitsInv b (x / 2)) := by
  have h59 : (2:Nat) ^ 59 = 576460752303423488 := by decide
  have e := bl_half hx
  have e2 : b - bl (x / 2) = b - bl x + 1 := by omega
  unfold rbitsInv
  rw [e2]
  exact Goes.of_run hG (ro := []) (m := 30) (lay_len ..)
    [.eq 19 (eqB (x := decide (Int.ofNat x > 0)) (y := true) (by simp only [Int.ofNat_eq_natCast, decide_eq_true_eq]; omega)), .eq 23 (eqS (nat_succ (i := b - bl x) (by omega))), .eq 21 (eq32 (shr_one x))] (by kernel_rfl)
theorem rbits_last (hG : Steady G) {b : Nat} : Goes Tryz.prog G 0 (loopOf Tryz.f153 0) (rbitsInv b 0) (.exit 0) (rbitsInv b 0) :=
  Goes.of_run hG (ro := []) (m := 30) (lay_len ..) [] (by kernel_rfl)
theorem rbits_loop (hG : Steady G) {b x : Nat} (hb : bl x ≤ b) (hb' : b < 2 ^ 59) :
    Abs Tryz.prog G 25 0 (.loop (loopOf Tryz.f153 0)) (lay 25 [(3, nat (b - bl x)), (4, u32 x)] []) (.exit 0) (rbitsInv b 0) := by
  refine Abs.rounds (fun x : Nat => bl x ≤ b) (fun x => rbitsInv b x) (fun x => x) (fun m => lay_len _ _ _) (by simp) (fun x hx => ?_) x hb
  rcases Nat.eq_zero_or_pos x with h | h
  · right; subst h; exact rbits_last hG
  · left
    have := bl_half h
    exact ⟨x / 2, by omega, by omega, rbits_round hG h hx hb'⟩
theorem rbits_spec (hG : Steady G) {m : Nat} (hm : (words m).length ≤ 2 ^ 36) : Spec Tryz.prog G 153 [rowW (words m)] (nat (bl m)) := by
  have h36 : (2:Nat) ^ 36 = 68719476736 := by decide
  have h59 : (2:Nat) ^ 59 = 576460752303423488 := by decide
  rcases Nat.eq_zero_or_pos m with h | h
  · subst h
    exact Spec.of_run hG Tryz.func153 (ro := []) (m := 30) [.eq 7 (eqB (x := (Int.ofNat (words 0).length == 0)) (y := true) rfl)] (by kernel_rfl)
  · have hp := words_len_pos (n := m) (by omega)
    have hlt := (dig_words m).getD ((words m).length - 1)
    have hb := bl_u32 hlt
    have e := bl_words h
    have hl := rbits_loop (G := G) hG (b := bl m) (x := (words m).getD ((words m).length - 1) 0) (by omega) (by omega)
    rw [show bl m - bl ((words m).getD ((words m).length - 1) 0) = 32 * ((words m).length - 1) by omega] at hl
    exact Spec.of_run hG Tryz.func153 (ro := []) (m := 30)
      [.eq 7 (eqB (words_ne h)), .eq 10 (eqS (nat_pred (i := (words m).length) (by omega) hp)),
       .eq 11 (eqS (x := IntKind.wrap .i64 (32 * Int.ofNat ((words m).length - 1))) (y := Int.ofNat (32 * ((words m).length - 1))) (by rw [wrapS (by simp only [Int.ofNat_eq_natCast]; omega) (by simp only [Int.ofNat_eq_natCast]; omega)]; simp)),
       .eq 15 (eqS (nat_pred (i := (words m).length) (by omega) hp)), .prop (at_need (l := words m) (i := (words m).length - 1) (by omega)), .prop (load_need (l := words m) (i := (words m).length - 1) (by omega)),
       .eq 17 (headD_need (l := words m) (i := (words m).length - 1) (by omega)), .code hl] (by kernel_rfl)
end Lw
