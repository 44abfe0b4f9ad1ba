/- The reference's check of a fraction, whatever its length: up to 2^45 - 1024 words, which is what the reach of a statement lets in. The theorems whose names end in B were printed by bigger.py out of those for smaller sizes. No condition. -/
import Derived.Test.YtfdllnbmjlhliaaGreatDoorLwPl
namespace Lw
open Go Go.RowKit Go.Proofs

variable {G : World → Prop}

def KBB : Nat := 35184372087808
theorem KBB_eq : KBB = 35184372087808 := rfl
def SzB (n : Nat) : Prop := (words n).length ≤ 35184372087808
def SzIB (i : Int) : Prop := SzB i.natAbs
theorem SzB.leB {n : Nat} (h : SzB n) : (words n).length ≤ 35184372087808 := h
theorem SzIB.leB {i : Int} (h : SzIB i) : (words i.natAbs).length ≤ 35184372087808 := h
theorem rtrim_specB (hG : Steady G) {l : List Nat} (hd : Dig l) (hb : l.length ≤ 35184372088832) : Spec Tryz.prog G 135 [rowW l] (rowW (words (val l))) := by
  have h40 : (2:Nat) ^ 40 = 1099511627776 := by decide
  exact Spec.of_run hG Tryz.func135 (ro := [6]) (m := 30)
    [.prop (p := ([] : List D).length = 0 * 1 ∧ (l.map u32).length = l.length * 1 ∧ 0 + l.length ≤ 2 ^ 62 ∧ (0 + l.length) * 4 ≤ 2 ^ 47) (by simp; omega),
     .eq 6 (d := .row (0 + l.length) false ([] ++ l.map u32)) (d' := rowW l) (by simp [rowW]), .code (rtrim_loop hG hd (by omega))] (by kernel_rfl)
theorem rvalid_specB (hG : Steady G) {s : Bool} {n : Nat} (hs : s = true → 0 < n) (hn : (words n).length ≤ 35184372087808) : Spec Tryz.prog G 146 [wv s n] (bool true) := by
  have h36 : (2:Nat) ^ 36 = 68719476736 := by decide
  rcases Nat.eq_zero_or_pos n with h | h
  · subst h
    cases s with
    | true => have := hs rfl; omega
    | false => exact Spec.of_run hG Tryz.func146 (ro := [1]) (m := 30) [] (by kernel_rfl)
  · have hp := words_len_pos (n := n) (by omega)
    have hz := words_last (n := n) (by omega)
    exact Spec.of_run hG Tryz.func146 (ro := [1]) (m := 30)
      [.eq 6 (eqB (words_ne h)), .eq 15 (eqS (nat_pred (i := (words n).length) (by omega) hp)), .prop (at_need (l := words n) (i := (words n).length - 1) (by omega)), .prop (load_need (l := words n) (i := (words n).length - 1) (by omega)),
       .eq 17 (headD_need (l := words n) (i := (words n).length - 1) (by omega)), .eq 18 (eqB (x := (Int.ofNat ((words n).getD ((words n).length - 1) 0) != 0)) (y := true) (by rw [bne_iff_ne]; simp only [Int.ofNat_eq_natCast]; omega))] (by kernel_rfl)
theorem rmag_specB (hG : Steady G) {s : Bool} {n : Nat} (hs : s = true → 0 < n) (hn : (words n).length ≤ 35184372087808) : Spec Tryz.prog G 123 [wv s n] (rowW (words n)) :=
  Spec.of_run hG Tryz.func123 (ro := [1]) (m := 30) [.call (rvalid_specB hG hs hn)] (by kernel_rfl)
theorem rneg_specB (hG : Steady G) {s : Bool} {n : Nat} (hs : s = true → 0 < n) (hn : (words n).length ≤ 35184372087808) : Spec Tryz.prog G 124 [wv s n] (bool s) :=
  Spec.of_run hG Tryz.func124 (ro := [1]) (m := 30) [.call (rvalid_specB hG hs hn)] (by kernel_rfl)
theorem rform_anyB (hG : Steady G) (s : Bool) {l : List Nat} (hl : Dig l) (hn : l.length ≤ 35184372088832) : Spec Tryz.prog G 114 [bool s, rowW l] (wv (s && decide (0 < val l)) (val l)) := by
  rcases Nat.eq_zero_or_pos (val l) with h | h
  · have ht := rtrim_specB (G := G) hG hl hn
    rw [h] at ht ⊢
    have e : (s && decide (0 < 0)) = false := by simp
    rw [e]
    exact Spec.of_run hG Tryz.func114 (ro := []) (m := 30) [.call ht, .eq 9 (eqB (x := (Int.ofNat (words 0).length == 0)) (y := true) rfl)] (by kernel_rfl)
  · have e : (s && decide (0 < val l)) = s := by rw [decide_eq_true h, Bool.and_true]
    rw [e]
    exact Spec.of_run hG Tryz.func114 (ro := []) (m := 30) [.call (rtrim_specB hG hl hn), .eq 9 (eqB (words_ne h))] (by kernel_rfl)
theorem rform_specB (hG : Steady G) (s : Bool) {n : Nat} (hn : (words n).length ≤ 35184372087808) : Spec Tryz.prog G 114 [bool s, rowW (words n)] (wv (s && decide (0 < n)) n) := by
  have h36 : (2:Nat) ^ 36 = 68719476736 := by decide
  have h40 : (2:Nat) ^ 40 = 1099511627776 := by decide
  have := rform_anyB (G := G) hG s (dig_words n) (by omega)
  rwa [val_words] at this
theorem grow_needB {n : Nat} {cs : List D} (h : cs.length = n) (hn : n < 35184372088832) {x : D} : 0 < 1 ∧ cs.length = n * 1 ∧ [x].length = 1 * 1 ∧ n + 1 ≤ 2 ^ 62 ∧ (n + 1) * 4 ≤ 2 ^ 47 := by
  have h40 : (2:Nat) ^ 40 = 1099511627776 := by decide
  have h62 : (2:Nat) ^ 62 = 4611686018427387904 := by decide
  have h47 : (2:Nat) ^ 47 = 140737488355328 := by decide
  exact ⟨by omega, by omega, rfl, by omega, by omega⟩
theorem rplus_roundB (hG : Steady G) {l m : List Nat} (hl : Dig l) (hm : Dig m) {i : Nat} (hi : i < plusN l m) (hb : plusN l m < 35184372088832) :
    Goes Tryz.prog G 0 (loopOf Tryz.f126 0) (rplusInv l m i) .normal (rplusInv l m (i + 1)) := by
  have h40 : (2:Nat) ^ 40 = 1099511627776 := by decide
  have h60 : (2:Nat) ^ 60 = 1152921504606846976 := by decide
  have hs := cAdd_step (val l) (val m) i
  have hd := cAdd_dig (val l) (val m) i
  rw [← getD_val hl, ← getD_val hm] at hs hd
  have h1 := hl.getD i
  have h2 := hm.getD i
  have h3 := cAdd_le (val l) (val m) i
  cases i with
  | zero =>
    rw [cAdd_zero] at hs hd
    have e : rplusInv l m (0 + 1) = lay 37 [(0, rowW l), (1, rowW m), (5, .gsl 0 (0 + 1) 1), (6, u64 (cAdd (val l) (val m) (0 + 1))), (14, nat (plusN l m)), (15, nat (0 + 1))] [(0, [] ++ [u32 ((val l + val m) / BP 0 % 4294967296)])] := by
      show lay 37 _ _ = _
      rw [← digs_map_snoc]; rfl
    rw [e]; clear e
    exact Goes.of_run hG (ro := []) (m := 30) (lay_len ..)
      [.eq 16 (eqB (lt_true hi)), .call (at_spec hG l hl 0), .call (at_spec hG m hm 0),
       .eq 24 (eq64 (x := IntKind.wrap .u64 (Int.ofNat (l.getD 0 0) + Int.ofNat (m.getD 0 0))) (y := Int.ofNat (l.getD 0 0 + m.getD 0 0)) (wrap64 (n := l.getD 0 0 + m.getD 0 0) (by omega))),
       .eq 26 (eq64 (x := IntKind.wrap .u64 (Int.ofNat (l.getD 0 0 + m.getD 0 0) + Int.ofNat 0)) (y := Int.ofNat (0 + (l.getD 0 0 + m.getD 0 0))) (by rw [Nat.zero_add]; exact wrap64 (n := l.getD 0 0 + m.getD 0 0) (by omega))),
       .eq 29 (eq32 (x := IntKind.wrap .u32 (Int.ofNat (0 + (l.getD 0 0 + m.getD 0 0)))) (y := Int.ofNat ((val l + val m) / BP 0 % 4294967296)) (by rw [← hd]; exact wrap32)),
       .prop (grow_needB (n := 0) (cs := []) (x := u32 ((val l + val m) / BP 0 % 4294967296)) rfl (by omega)),
       .eq 33 (eq64 (x := (Int.ofNat (0 + (l.getD 0 0 + m.getD 0 0))).fdiv (2 ^ min (Int.toNat 32) (IntKind.bits .u64))) (y := Int.ofNat (cAdd (val l) (val m) (0 + 1))) (by rw [shr32, ← hs])),
       .eq 34 (eqS (nat_succ (i := 0) (by omega)))] (by kernel_rfl)
  | succ i =>
    have e : rplusInv l m (i + 1 + 1) = lay 37 [(0, rowW l), (1, rowW m), (5, .gsl 0 (i + 1 + 1) 1), (6, u64 (cAdd (val l) (val m) (i + 1 + 1))), (14, nat (plusN l m)), (15, nat (i + 1 + 1))] [(0, (digs (i + 1) (val l + val m)).map u32 ++ [u32 ((val l + val m) / BP (i + 1) % 4294967296)])] := by
      show lay 37 _ _ = _
      rw [digs_map_snoc]
    rw [e]; clear e
    exact Goes.of_run hG (ro := []) (m := 30) (lay_len ..)
      [.eq 16 (eqB (lt_true hi)), .call (at_spec hG l hl (i + 1)), .call (at_spec hG m hm (i + 1)),
       .eq 24 (eq64 (x := IntKind.wrap .u64 (Int.ofNat (l.getD (i + 1) 0) + Int.ofNat (m.getD (i + 1) 0))) (y := Int.ofNat (l.getD (i + 1) 0 + m.getD (i + 1) 0)) (wrap64 (n := l.getD (i + 1) 0 + m.getD (i + 1) 0) (by omega))),
       .eq 26 (eq64 (x := IntKind.wrap .u64 (Int.ofNat (l.getD (i + 1) 0 + m.getD (i + 1) 0) + Int.ofNat (cAdd (val l) (val m) (i + 1)))) (y := Int.ofNat (cAdd (val l) (val m) (i + 1) + (l.getD (i + 1) 0 + m.getD (i + 1) 0)))
         (by rw [Nat.add_comm (cAdd (val l) (val m) (i + 1))]; exact wrap64 (n := l.getD (i + 1) 0 + m.getD (i + 1) 0 + cAdd (val l) (val m) (i + 1)) (by omega))),
       .eq 29 (eq32 (x := IntKind.wrap .u32 (Int.ofNat (cAdd (val l) (val m) (i + 1) + (l.getD (i + 1) 0 + m.getD (i + 1) 0)))) (y := Int.ofNat ((val l + val m) / BP (i + 1) % 4294967296)) (by rw [← hd]; exact wrap32)),
       .prop (grow_needB (n := i + 1) (cs := (digs (i + 1) (val l + val m)).map u32) (x := u32 ((val l + val m) / BP (i + 1) % 4294967296)) (by rw [List.length_map, digs_len]) (by omega)),
       .eq 33 (eq64 (x := (Int.ofNat (cAdd (val l) (val m) (i + 1) + (l.getD (i + 1) 0 + m.getD (i + 1) 0))).fdiv (2 ^ min (Int.toNat 32) (IntKind.bits .u64))) (y := Int.ofNat (cAdd (val l) (val m) (i + 1 + 1))) (by rw [shr32, ← hs])),
       .eq 34 (eqS (nat_succ (i := i + 1) (by omega)))] (by kernel_rfl)
theorem rplus_loopB (hG : Steady G) {l m : List Nat} (hl : Dig l) (hm : Dig m) (hb : plusN l m < 35184372088832) :
    Abs Tryz.prog G 37 0 (.loop (loopOf Tryz.f126 0)) (lay 37 [(0, rowW l), (1, rowW m), (5, .row 0 true []), (6, u64 0), (14, nat (plusN l m)), (15, nat 0)] []) (.exit 0)
      (rplusInv l m (max l.length m.length + 1)) :=
  Abs.count (rplusInv l m) (plusN l m) (fun i => by cases i <;> exact lay_len _ _ _) (by simp) (fun i hi => rplus_roundB hG hl hm hi hb) (rplus_last hG)
theorem rplus_specB (hG : Steady G) {l m : List Nat} (hl : Dig l) (hm : Dig m) (h1 : l.length ≤ 35184372087808) (h2 : m.length ≤ 35184372087808) :
    Spec Tryz.prog G 126 [rowW l, rowW m] (rowW (words (val l + val m))) := by
  have h36 : (2:Nat) ^ 36 = 68719476736 := by decide
  have h40 : (2:Nat) ^ 40 = 1099511627776 := by decide
  have hN : plusN l m < 35184372088832 := by unfold plusN; omega
  have hfit := plus_fits hl hm
  have ht := rtrim_specB (G := G) hG (l := digs (plusN l m) (val l + val m)) (digs_dig _ _) (by rw [digs_len]; omega)
  rw [words_digs hfit] at ht
  refine Spec.of_run hG Tryz.func126 (ro := []) (m := 30) (args := [rowW l, rowW m])
    [.eq 13 (eqS (max_len l m)), .eq 14 (eqS (nat_succ (i := max l.length m.length) (by omega))), .code (rplus_loopB hG hl hm hN), .freeze 0,
     .eq 35 (d := D.row (max l.length m.length + 1) false (((digs (max l.length m.length + 1) (val l + val m)).map u32).take ((max l.length m.length + 1) * 1))) (d' := rowW (digs (plusN l m) (val l + val m))) ?_, .call ht] (by kernel_rfl)
  unfold rowW plusN
  rw [List.take_of_length_le (by simp [digs_len]), digs_len]
theorem rminus_roundB (hG : Steady G) {l m : List Nat} (hl : Dig l) (hm : Dig m) (hle : val m ≤ val l) {i : Nat} (hi : i < l.length) (hb : l.length < 35184372088832) :
    Goes Tryz.prog G 0 (loopOf Tryz.f128 0) (rminusInv l m i) .normal (rminusInv l m (i + 1)) := by
  have h40 : (2:Nat) ^ 40 = 1099511627776 := by decide
  have h60 : (2:Nat) ^ 60 = 1152921504606846976 := by decide
  have hd := brw_dig (i := i) hle
  have hn := brw_next (a := val l) (b := val m) (i := i)
  rw [← getD_val hl, ← getD_val hm] at hd hn
  have h1 := hl.getD i
  have h2 := hm.getD i
  have h3 := cSub_le (val l) (val m) i
  have hq := brw_one (x := l.getD i 0) (y := m.getD i 0) (c := cSub (val l) (val m) i) h1
  have e32 : IntKind.wrap .u32 (Int.ofNat (brw (l.getD i 0) (m.getD i 0) (cSub (val l) (val m) i))) = Int.ofNat ((val l - val m) / BP i % 4294967296) := by rw [conv32, hd]
  have eb : IntKind.wrap .u64 (1 - Int.ofNat (brw (l.getD i 0) (m.getD i 0) (cSub (val l) (val m) i) / 4294967296)) = Int.ofNat (cSub (val l) (val m) (i + 1)) := by rw [one_less hq, hn]
  have e23 : IntKind.wrap .u64 (Int.ofNat (4294967296 + l.getD i 0 - m.getD i 0) - Int.ofNat (cSub (val l) (val m) i)) = Int.ofNat (brw (l.getD i 0) (m.getD i 0) (cSub (val l) (val m) i)) := wrap_less (by omega) (by omega)
  have e21 : IntKind.wrap .u64 (Int.ofNat (4294967296 + l.getD i 0) - Int.ofNat (m.getD i 0)) = Int.ofNat (4294967296 + l.getD i 0 - m.getD i 0) := wrap_less (by omega) (by omega)
  cases i with
  | zero =>
    rw [cSub_zero] at e32 eb e23
    have e : rminusInv l m (0 + 1) = lay 35 [(0, rowW l), (1, rowW m), (5, .gsl 0 (0 + 1) 1), (6, u64 (cSub (val l) (val m) (0 + 1))), (10, nat l.length), (11, nat (0 + 1))] [(0, [] ++ [u32 ((val l - val m) / BP 0 % 4294967296)])] := by
      show lay 35 _ _ = _
      rw [← digs_map_snoc]; rfl
    rw [e]; clear e
    exact Goes.of_run hG (ro := []) (m := 30) (lay_len ..)
      [.eq 12 (eqB (lt_true hi)), .call (at_spec hG l hl 0), .eq 17 (eq64 (add32 h1)), .call (at_spec hG m hm 0), .eq 21 (eq64 e21), .eq 23 (eq64 e23), .eq 26 (eq32 e32),
       .prop (grow_needB (n := 0) (cs := []) (x := u32 ((val l - val m) / BP 0 % 4294967296)) rfl (by omega)), .eq 30 (eq64 (shr32 (brw (l.getD 0 0) (m.getD 0 0) 0))), .eq 31 (eq64 eb), .eq 32 (eqS (nat_succ (i := 0) (by omega)))] (by kernel_rfl)
  | succ i =>
    have e : rminusInv l m (i + 1 + 1) = lay 35 [(0, rowW l), (1, rowW m), (5, .gsl 0 (i + 1 + 1) 1), (6, u64 (cSub (val l) (val m) (i + 1 + 1))), (10, nat l.length), (11, nat (i + 1 + 1))] [(0, (digs (i + 1) (val l - val m)).map u32 ++ [u32 ((val l - val m) / BP (i + 1) % 4294967296)])] := by
      show lay 35 _ _ = _
      rw [digs_map_snoc]
    rw [e]; clear e
    exact Goes.of_run hG (ro := []) (m := 30) (lay_len ..)
      [.eq 12 (eqB (lt_true hi)), .call (at_spec hG l hl (i + 1)), .eq 17 (eq64 (add32 h1)), .call (at_spec hG m hm (i + 1)), .eq 21 (eq64 e21), .eq 23 (eq64 e23), .eq 26 (eq32 e32),
       .prop (grow_needB (n := i + 1) (cs := (digs (i + 1) (val l - val m)).map u32) (x := u32 ((val l - val m) / BP (i + 1) % 4294967296)) (by rw [List.length_map, digs_len]) (by omega)),
       .eq 30 (eq64 (shr32 (brw (l.getD (i + 1) 0) (m.getD (i + 1) 0) (cSub (val l) (val m) (i + 1))))), .eq 31 (eq64 eb), .eq 32 (eqS (nat_succ (i := i + 1) (by omega)))] (by kernel_rfl)
theorem rminus_loopB (hG : Steady G) {l m : List Nat} (hl : Dig l) (hm : Dig m) (hle : val m ≤ val l) (hb : l.length < 35184372088832) {k : Nat} (hk : l.length = k + 1) :
    Abs Tryz.prog G 35 0 (.loop (loopOf Tryz.f128 0)) (lay 35 [(0, rowW l), (1, rowW m), (5, .row 0 true []), (6, u64 0), (10, nat l.length), (11, nat 0)] []) (.exit 0)
      (rminusInv l m (k + 1)) :=
  Abs.count (rminusInv l m) (k + 1) (fun i => by cases i <;> exact lay_len _ _ _) (by simp) (fun i hi => rminus_roundB hG hl hm hle (by omega) hb) (rminus_last hG hk)
theorem rminus_specB (hG : Steady G) {l m : List Nat} (hl : Dig l) (hm : Dig m) (hle : val m ≤ val l) (h1 : l.length ≤ 35184372087808) :
    Spec Tryz.prog G 128 [rowW l, rowW m] (rowW (words (val l - val m))) := by
  have h36 : (2:Nat) ^ 36 = 68719476736 := by decide
  have h40 : (2:Nat) ^ 40 = 1099511627776 := by decide
  have hfit : val l - val m < BP l.length := Nat.lt_of_le_of_lt (Nat.sub_le _ _) (val_lt hl)
  have ht := rtrim_specB (G := G) hG (l := digs l.length (val l - val m)) (digs_dig _ _) (by rw [digs_len]; omega)
  rw [words_digs hfit] at ht
  cases hk : l.length with
  | zero =>
    have : l = [] := List.eq_nil_of_length_eq_zero hk
    subst this
    have ht : Spec Tryz.prog G 135 [rowW []] (rowW (words (val [] - val m))) := ht
    exact Spec.of_run hG Tryz.func128 (ro := []) (m := 30) [.call ht] (by kernel_rfl)
  | succ k =>
    rw [hk] at ht
    refine Spec.of_run hG Tryz.func128 (ro := []) (m := 30) (args := [rowW l, rowW m])
      [.code (rminus_loopB hG hl hm hle (by omega) hk), .freeze 0,
       .eq 33 (d := D.row (k + 1) false (((digs (k + 1) (val l - val m)).map u32).take ((k + 1) * 1))) (d' := rowW (digs (k + 1) (val l - val m))) ?_, .call ht] (by kernel_rfl)
    unfold rowW
    rw [List.take_of_length_le (by simp [digs_len]), digs_len]
theorem rcompare_specB (hG : Steady G) {l m : List Nat} (hl : Dig l) (hm : Dig m) (h1 : l.length ≤ 35184372088832) (h2 : m.length ≤ 35184372088832) :
    Spec Tryz.prog G 127 [rowW l, rowW m] (int (cmpI (val l) (val m))) := by
  have h40 : (2:Nat) ^ 40 = 1099511627776 := by decide
  have h60 : (2:Nat) ^ 60 = 1152921504606846976 := by decide
  have hN : max l.length m.length < 2 ^ 60 := by omega
  by_cases he : val l = val m
  · rw [he, cmpI_self]
    exact Spec.of_run hG Tryz.func127 (ro := []) (m := 30)
      [.eq 10 (eqS (max_len l m)), .eq 11 (eqS (cnt_top hN)), .code (rcmp_loop_eq hG hl hm he hN)] (by kernel_rfl)
  · have hh : val l / BP (max l.length m.length) = val m / BP (max l.length m.length) := by
      have a := val_lt hl
      have b := val_lt hm
      have h3 : BP l.length ≤ BP (max l.length m.length) := BP_mono (Nat.le_max_left _ _)
      have h4 : BP m.length ≤ BP (max l.length m.length) := BP_mono (Nat.le_max_right _ _)
      rw [Nat.div_eq_of_lt (by omega), Nat.div_eq_of_lt (by omega)]
    exact Spec.of_run hG Tryz.func127 (ro := []) (m := 30)
      [.eq 10 (eqS (max_len l m)), .eq 11 (eqS (cnt_top hN)), .code (rcmp_loop_ne hG hl hm he hN hh)] (by kernel_rfl)
theorem cut_roundB (hG : Steady G) {p : Bool} {N y k : Nat} {o : List D} (hk : k < N) (hN : N < 35184372088832) (hw : (words y).length ≤ k) :
    Goes Tryz.prog G 2 (loopOf Tryz.f145 0) (cutInv p N y o (k + 1)) .normal (cutInv p N y o k) := by
  have h40 : (2:Nat) ^ 40 = 1099511627776 := by decide
  have h60 : (2:Nat) ^ 60 = 1152921504606846976 := by decide
  have hz : y / BP k % 4294967296 = 0 := by rw [Nat.div_eq_of_lt ((len_le_iff y k).1 hw)]
  have e1 : IntKind.wrap .i64 (Int.ofNat (k + 1) - 1) = Int.ofNat k := nat_pred (i := k + 1) (by omega) (by omega)
  have g1 : decide (Int.ofNat (k + 1) > 0) = true := by simp only [Int.ofNat_eq_natCast, decide_eq_true_eq]; omega
  have n1 : (0:Int) ≤ Int.ofNat k ∧ Int.ofNat k < ((k + 1 : Nat) : Int) := by simp only [Int.ofNat_eq_natCast]; omega
  have n2 : 0 < 1 ∧ k + 1 ≤ (dcel N y).length := by rw [dcel_len]; omega
  have n3 : (0:Int) ≤ Int.ofNat k ∧ Int.ofNat k ≤ ((k + 1 : Nat) : Int) := by simp only [Int.ofNat_eq_natCast]; omega
  have p1 : D.ptr (cond p 1 0) ((Int.ofNat k).toNat * 1) = .ptr (cond p 1 0) k := by simp
  have e13 : (Int.ofNat (y / BP k % 4294967296) == 0) = true := by rw [hz]; rfl
  cases p <;> exact Goes.of_run hG (ro := []) (m := 30) (lay_len ..)
    [.eq 5 (eqB g1), .eq 10 (eqS e1), .prop n1, .eq 11 p1, .prop n2, .eq 12 (dcel_get (N := N) (x := y) hk), .eq 13 (eqB e13), .eq 18 (eqS e1), .prop n3] (by kernel_rfl)
theorem cut_lastB (hG : Steady G) {p : Bool} {N y : Nat} {o : List D} (hk : (words y).length ≤ N) (hN : N < 35184372088832) :
    Goes Tryz.prog G 2 (loopOf Tryz.f145 0) (cutInv p N y o (words y).length) (.exit 0) (cutInv p N y o (words y).length) := by
  have h40 : (2:Nat) ^ 40 = 1099511627776 := by decide
  have h60 : (2:Nat) ^ 60 = 1152921504606846976 := by decide
  rcases Nat.eq_zero_or_pos y with h | h
  · subst h
    have g1 : decide (Int.ofNat (words 0).length > 0) = false := rfl
    cases p <;> exact Goes.of_run hG (ro := []) (m := 30) (lay_len ..) [.eq 5 (eqB g1)] (by kernel_rfl)
  · have hp := words_len_pos (n := y) (by omega)
    have hz := words_last (n := y) (by omega)
    rw [words_getD] at hz
    have g1 : decide (Int.ofNat (words y).length > 0) = true := by simp only [Int.ofNat_eq_natCast, decide_eq_true_eq]; omega
    have e1 : IntKind.wrap .i64 (Int.ofNat (words y).length - 1) = Int.ofNat ((words y).length - 1) := nat_pred (i := (words y).length) (by omega) hp
    have n1 : (0:Int) ≤ Int.ofNat ((words y).length - 1) ∧ Int.ofNat ((words y).length - 1) < ((words y).length : Int) := by simp only [Int.ofNat_eq_natCast]; omega
    have n2 : 0 < 1 ∧ (words y).length - 1 + 1 ≤ (dcel N y).length := by rw [dcel_len]; omega
    have p1 : D.ptr (cond p 1 0) ((Int.ofNat ((words y).length - 1)).toNat * 1) = .ptr (cond p 1 0) ((words y).length - 1) := by simp
    have e13 : (Int.ofNat (y / BP ((words y).length - 1) % 4294967296) == 0) = false := by rw [beq_eq_false_iff_ne]; simp only [Int.ofNat_eq_natCast]; omega
    have c1 := dcel_get (N := N) (x := y) (k := (words y).length - 1) (by omega)
    cases p <;> exact Goes.of_run hG (ro := []) (m := 30) (lay_len ..)
      [.eq 5 (eqB g1), .eq 10 (eqS e1), .prop n1, .eq 11 p1, .prop n2, .eq 12 c1, .eq 13 (eqB e13)] (by kernel_rfl)
theorem cut_loopB (hG : Steady G) (p : Bool) {N y n : Nat} (o : List D) (hn : n ≤ N) (hN : N < 35184372088832) (hw : (words y).length ≤ n) :
    Abs Tryz.prog G 21 2 (.loop (loopOf Tryz.f145 0)) (lay 21 [(0, .gsl (cond p 1 0) n 1)] (blk2 p (dcel N y) o)) (.exit 0) (cutInv p N y o (words y).length) := by
  refine Abs.rounds (fun k : Nat => k ≤ N ∧ (words y).length ≤ k) (cutInv p N y o) (fun k => k) (fun m => lay_len _ _ _) (by simp) (fun k hk => ?_) n ⟨hn, hw⟩
  obtain ⟨h1, h2⟩ := hk
  rcases Nat.eq_or_lt_of_le h2 with h | h
  · right; subst h; exact cut_lastB hG h1 hN
  · left
    obtain ⟨k', rfl⟩ : ∃ k', k = k' + 1 := ⟨k - 1, by omega⟩
    exact ⟨k', ⟨by omega, by omega⟩, by omega, cut_roundB hG (by omega) hN (by omega)⟩
theorem hal_roundB (hG : Steady G) {p : Bool} {N x i : Nat} {o : List D} (hn : (words x).length ≤ N) (hN : N < 35184372088832) (hi : i < (words x).length) :
    Goes Tryz.prog G 2 (loopOf Tryz.f143 0) (halInv p N x o i) .normal (halInv p N x o (i + 1)) := by
  have h40 : (2:Nat) ^ 40 = 1099511627776 := by decide
  have h60 : (2:Nat) ^ 60 = 1152921504606846976 := by decide
  have a1 := at_part (G := G) hG (N := N) (n := (words x).length) (i := i) (halF_lt x i) hn
  have a2 := at_part (G := G) hG (N := N) (n := (words x).length) (i := i + 1) (halF_lt x i) hn
  have f1 : (if i < (words x).length then halF x i i else 0) = x / BP i % 4294967296 := by rw [if_pos hi]; unfold halF; rw [if_neg (by omega)]
  have f2 : (if i + 1 < (words x).length then halF x i (i + 1) else 0) = x / BP (i + 1) % 4294967296 := by
    split
    · unfold halF; rw [if_neg (by omega)]
    · rw [Nat.div_eq_of_lt ((len_le_iff x (i + 1)).1 (by omega))]
  rw [f1] at a1
  rw [f2] at a2
  have hw : x / BP i % 4294967296 < 4294967296 := Nat.mod_lt _ (by omega)
  have hw2 : x / BP (i + 1) % 4294967296 < 4294967296 := Nat.mod_lt _ (by omega)
  have hor : IntKind.wrap .u64 (((BitVec.ofInt (IntKind.bits .u64) (Int.ofNat (x / BP i % 4294967296 / 2)) ||| BitVec.ofInt (IntKind.bits .u64) (Int.ofNat (x / BP (i + 1) % 4294967296 * 2147483648))).toNat : Nat) : Int)
      = Int.ofNat (x / BP i % 4294967296 / 2 + x / BP (i + 1) % 4294967296 * 2147483648) := by
    rw [or_bits (by omega) (by omega)]
    have := or_low (n := 31) (x := x / BP (i + 1) % 4294967296) (y := x / BP i % 4294967296 / 2) (by rw [show (2:Nat) ^ 31 = 2147483648 by decide]; omega)
    rw [show (2:Nat) ^ 31 = 2147483648 by decide] at this
    rw [this]
  have hcv : IntKind.wrap .u32 (Int.ofNat (x / BP i % 4294967296 / 2 + x / BP (i + 1) % 4294967296 * 2147483648)) = Int.ofNat (x / 2 / BP i % 4294967296) := by rw [conv32, hal_dig]
  have n1 : (0:Int) ≤ Int.ofNat i ∧ Int.ofNat i < ((words x).length : Int) := ix_need hi
  have p1 : D.ptr (cond p 1 0) ((Int.ofNat i).toNat * 1) = .ptr (cond p 1 0) i := by simp
  have n2 : i + 1 ≤ (cel N (halF x i)).length := by rw [cel_len]; omega
  have s1 : IntKind.wrap .i64 (Int.ofNat i + 1) = Int.ofNat (i + 1) := nat_succ (by omega)
  have e : halInv p N x o (i + 1) = lay 26 [(0, .gsl (cond p 1 0) (words x).length 1), (5, nat (words x).length), (6, nat (i + 1))] (blk2 p (splice (cel N (halF x i)) i [u32 (x / 2 / BP i % 4294967296)]) o) := by
    rw [halF_next (by omega)]; rfl
  rw [e]; clear e
  cases p <;> exact Goes.of_run hG (ro := []) (m := 30) (lay_len ..)
    [.eq 7 (eqB (lt_true hi)), .call a1, .eq 14 (eq64 (shr1_u64 (x / BP i % 4294967296))), .eq 17 (eqS s1), .call a2, .eq 19 (eq64 (shl31_u64 hw2)), .eq 20 (eq64 hor), .eq 21 (eq32 hcv),
     .prop n1, .eq 22 p1, .prop n2, .eq 23 (eqS s1)] (by kernel_rfl)
theorem hal_loopB (hG : Steady G) (p : Bool) {N x : Nat} (o : List D) (hn : (words x).length ≤ N) (hN : N < 35184372088832) :
    Abs Tryz.prog G 26 2 (.loop (loopOf Tryz.f143 0)) (lay 26 [(0, .gsl (cond p 1 0) (words x).length 1), (5, nat (words x).length), (6, nat 0)] (blk2 p (dcel N x) o)) (.exit 0)
      (lay 26 [(0, .gsl (cond p 1 0) (words x).length 1), (5, nat (words x).length), (6, nat (words x).length)] (blk2 p (dcel N (x / 2)) o)) := by
  have h := Abs.count (halInv p N x o) (words x).length (fun k => lay_len _ _ _) (by simp) (fun i hi => hal_roundB hG hn hN hi) (hal_last hG)
  unfold halInv at h
  rw [halF_zero, halF_end] at h
  exact h
theorem tk_roundB (hG : Steady G) {p : Bool} {Na Nb X Y t : Nat} (ha : (words X).length ≤ Na) (hb : (words Y).length ≤ Nb) (hle : Y ≤ X) (hN : Na < 35184372088832) (ht : t < (words X).length) :
    Goes Tryz.prog G 2 (loopOf Tryz.f144 0) (tkInv p Na Nb X Y t) .normal (tkInv p Na Nb X Y (t + 1)) := by
  have h40 : (2:Nat) ^ 40 = 1099511627776 := by decide
  have h60 : (2:Nat) ^ 60 = 1152921504606846976 := by decide
  have hd := brw_dig (i := t) hle
  have hn := brw_next (a := X) (b := Y) (i := t)
  have h1 : X / BP t % 4294967296 < 4294967296 := Nat.mod_lt _ (by omega)
  have h2 : Y / BP t % 4294967296 < 4294967296 := Nat.mod_lt _ (by omega)
  have h3 := cSub_le X Y t
  have a1 := at_part (G := G) hG (N := Na) (n := (words X).length) (i := t) (takF_lt X Y t) ha
  have f1 : (if t < (words X).length then takF X Y t t else 0) = X / BP t % 4294967296 := by rw [if_pos ht]; unfold takF; rw [if_neg (by omega)]
  rw [f1] at a1
  have a2 := at_spec (G := G) hG (words Y) (dig_words _) t
  rw [words_getD, ← dcel_row hb] at a2
  have hq := brw_one (x := X / BP t % 4294967296) (y := Y / BP t % 4294967296) (c := cSub X Y t) h1
  have e32 : IntKind.wrap .u32 (Int.ofNat (brw (X / BP t % 4294967296) (Y / BP t % 4294967296) (cSub X Y t))) = Int.ofNat ((X - Y) / BP t % 4294967296) := by rw [conv32, hd]
  have eb : IntKind.wrap .u64 (1 - Int.ofNat (brw (X / BP t % 4294967296) (Y / BP t % 4294967296) (cSub X Y t) / 4294967296)) = Int.ofNat (cSub X Y (t + 1)) := by rw [one_less hq, hn]
  have e21 : IntKind.wrap .u64 (Int.ofNat (4294967296 + X / BP t % 4294967296 - Y / BP t % 4294967296) - Int.ofNat (cSub X Y t)) = Int.ofNat (brw (X / BP t % 4294967296) (Y / BP t % 4294967296) (cSub X Y t)) := wrap_less (by omega) (by omega)
  have e19 : IntKind.wrap .u64 (Int.ofNat (4294967296 + X / BP t % 4294967296) - Int.ofNat (Y / BP t % 4294967296)) = Int.ofNat (4294967296 + X / BP t % 4294967296 - Y / BP t % 4294967296) := wrap_less (by omega) (by omega)
  have n1 : (0:Int) ≤ Int.ofNat t ∧ Int.ofNat t < ((words X).length : Int) := ix_need ht
  have p1 : D.ptr (cond p 1 0) ((Int.ofNat t).toNat * 1) = .ptr (cond p 1 0) t := by simp
  have n2 : t + 1 ≤ (cel Na (takF X Y t)).length := by rw [cel_len]; omega
  have s1 : IntKind.wrap .i64 (Int.ofNat t + 1) = Int.ofNat (t + 1) := nat_succ (by omega)
  have e : tkInv p Na Nb X Y (t + 1) = lay 31 [(0, .gsl (cond p 1 0) (words X).length 1), (1, .gsl (cond p 0 1) (words Y).length 1), (4, u64 (cSub X Y (t + 1))), (8, nat (words X).length), (9, nat (t + 1))]
      (blk2 p (splice (cel Na (takF X Y t)) t [u32 ((X - Y) / BP t % 4294967296)]) (dcel Nb Y)) := by
    rw [takF_next (by omega)]; rfl
  rw [e]; clear e
  cases p <;> exact Goes.of_run hG (ro := []) (m := 30) (lay_len ..)
    [.eq 10 (eqB (lt_true ht)), .call a1, .eq 15 (eq64 (add32 h1)), .call a2, .eq 19 (eq64 e19), .eq 21 (eq64 e21), .eq 25 (eq32 e32), .eq 27 (eq64 (shr32 (brw (X / BP t % 4294967296) (Y / BP t % 4294967296) (cSub X Y t)))), .eq 28 (eq64 eb),
     .prop n1, .eq 29 p1, .prop n2, .eq 30 (eqS s1)] (by kernel_rfl)
theorem tk_loopB (hG : Steady G) (p : Bool) {Na Nb X Y : Nat} (ha : (words X).length ≤ Na) (hb : (words Y).length ≤ Nb) (hle : Y ≤ X) (hN : Na < 35184372088832) :
    Abs Tryz.prog G 31 2 (.loop (loopOf Tryz.f144 0))
      (lay 31 [(0, .gsl (cond p 1 0) (words X).length 1), (1, .gsl (cond p 0 1) (words Y).length 1), (4, u64 0), (8, nat (words X).length), (9, nat 0)] (blk2 p (dcel Na X) (dcel Nb Y))) (.exit 0)
      (lay 31 [(0, .gsl (cond p 1 0) (words X).length 1), (1, .gsl (cond p 0 1) (words Y).length 1), (4, u64 (cSub X Y (words X).length)), (8, nat (words X).length), (9, nat (words X).length)] (blk2 p (dcel Na (X - Y)) (dcel Nb Y))) := by
  have h := Abs.count (tkInv p Na Nb X Y) (words X).length (fun k => lay_len _ _ _) (by simp) (fun i hi => tk_roundB hG ha hb hle hN hi) (tk_last hG)
  unfold tkInv at h
  rw [takF_stop, takF_zero, dcel_cel, cSub_zero] at h
  exact h
theorem sa_roundB (hG : Steady G) {N0 N1 tw : Nat} {sw : Bool} {a b : Nat} (ha : 0 < a) (he : a % 2 = 0) (hn : (words a).length ≤ cond sw N1 N0) (h0 : N0 < 35184372088832) (h1 : N1 < 35184372088832) :
    Goes Tryz.prog G 0 (loopOf Tryz.f122 2) (gst N0 N1 tw ⟨sw, a, b⟩) .normal (gst N0 N1 tw ⟨sw, a / 2, b⟩) := by
  cases sw
  · exact Goes.of_run hG (ro := []) (m := 40) (lay_len ..)
      [.prop (zero_ix ha), .prop (zero_load ha hn), .eq 41 (zero_get ha hn), .eq 42 (eq32 (zero_and a)), .eq 43 (eqB (even_true he)),
       .inl [] Tryz.func143, .code (hal_loopB hG false (x := a) (dcel N1 b) hn h0), .inl [] Tryz.func145, .code (cut_loopB hG false (y := a / 2) (dcel N1 b) hn h0 (len_half a))] (by kernel_rfl)
  · exact Goes.of_run hG (ro := []) (m := 40) (lay_len ..)
      [.prop (zero_ix ha), .prop (zero_load ha hn), .eq 41 (zero_get ha hn), .eq 42 (eq32 (zero_and a)), .eq 43 (eqB (even_true he)),
       .inl [] Tryz.func143, .code (hal_loopB hG true (x := a) (dcel N0 b) hn h1), .inl [] Tryz.func145, .code (cut_loopB hG true (y := a / 2) (dcel N0 b) hn h1 (len_half a))] (by kernel_rfl)
theorem sa_loopB (hG : Steady G) {N0 N1 tw : Nat} {sw : Bool} {a b : Nat} (ha : 0 < a) (hn : (words a).length ≤ cond sw N1 N0) (h0 : N0 < 35184372088832) (h1 : N1 < 35184372088832) :
    Abs Tryz.prog G 72 0 (.loop (loopOf Tryz.f122 2)) (gst N0 N1 tw ⟨sw, a, b⟩) (.exit 4) (gst N0 N1 tw ⟨sw, oddp a, b⟩) := by
  have hlen : ∀ i, (words (a / 2 ^ i)).length ≤ cond sw N1 N0 := fun i => Nat.le_trans (len_mono (Nat.div_le_self _ _)) hn
  have h := Abs.count (P := Tryz.prog) (Good := G) (gb := 0) (body := loopOf Tryz.f122 2) (e := .exit 4) (s' := gst N0 N1 tw ⟨sw, a / 2 ^ tz a, b⟩) (fun i => gst N0 N1 tw ⟨sw, a / 2 ^ i, b⟩) (tz a) (fun i => lay_len _ _ _) (by simp)
    (fun i hi => by
      have := sa_roundB (G := G) hG (tw := tw) (sw := sw) (b := b) (pow_pos_of ha fun k hk => tz_even ha (by omega)) (tz_even ha hi) (hlen i) h0 h1
      rwa [← half_step] at this)
    (sa_last hG (pow_pos_of ha fun k hk => tz_even ha hk) (by have := tz_odd ha; omega) (hlen _))
  simp only [Nat.pow_zero, Nat.div_one] at h
  exact h
theorem sb_roundB (hG : Steady G) {N0 N1 tw : Nat} {sw : Bool} {a b : Nat} (hb : 0 < b) (he : b % 2 = 0) (hn : (words b).length ≤ cond sw N0 N1) (h0 : N0 < 35184372088832) (h1 : N1 < 35184372088832) :
    Goes Tryz.prog G 0 (loopOf Tryz.f122 3) (gst N0 N1 tw ⟨sw, a, b⟩) .normal (gst N0 N1 tw ⟨sw, a, b / 2⟩) := by
  cases sw
  · exact Goes.of_run hG (ro := []) (m := 40) (lay_len ..)
      [.prop (zero_ix hb), .prop (zero_load hb hn), .eq 48 (zero_get hb hn), .eq 49 (eq32 (zero_and b)), .eq 50 (eqB (even_true he)),
       .inl [] Tryz.func143, .code (hal_loopB hG true (x := b) (dcel N0 a) hn h1), .inl [] Tryz.func145, .code (cut_loopB hG true (y := b / 2) (dcel N0 a) hn h1 (len_half b))] (by kernel_rfl)
  · exact Goes.of_run hG (ro := []) (m := 40) (lay_len ..)
      [.prop (zero_ix hb), .prop (zero_load hb hn), .eq 48 (zero_get hb hn), .eq 49 (eq32 (zero_and b)), .eq 50 (eqB (even_true he)),
       .inl [] Tryz.func143, .code (hal_loopB hG false (x := b) (dcel N1 a) hn h0), .inl [] Tryz.func145, .code (cut_loopB hG false (y := b / 2) (dcel N1 a) hn h0 (len_half b))] (by kernel_rfl)
theorem sb_loopB (hG : Steady G) {N0 N1 tw : Nat} {sw : Bool} {a b : Nat} (hb : 0 < b) (hn : (words b).length ≤ cond sw N0 N1) (h0 : N0 < 35184372088832) (h1 : N1 < 35184372088832) :
    Abs Tryz.prog G 72 0 (.loop (loopOf Tryz.f122 3)) (gst N0 N1 tw ⟨sw, a, b⟩) (.exit 6) (gst N0 N1 tw ⟨sw, a, oddp b⟩) := by
  have hlen : ∀ i, (words (b / 2 ^ i)).length ≤ cond sw N0 N1 := fun i => Nat.le_trans (len_mono (Nat.div_le_self _ _)) hn
  have h := Abs.count (P := Tryz.prog) (Good := G) (gb := 0) (body := loopOf Tryz.f122 3) (e := .exit 6) (s' := gst N0 N1 tw ⟨sw, a, b / 2 ^ tz b⟩) (fun i => gst N0 N1 tw ⟨sw, a, b / 2 ^ i⟩) (tz b) (fun i => lay_len _ _ _) (by simp)
    (fun i hi => by
      have := sb_roundB (G := G) hG (tw := tw) (sw := sw) (a := a) (pow_pos_of hb fun k hk => tz_even hb (by omega)) (tz_even hb hi) (hlen i) h0 h1
      rwa [← half_step] at this)
    (sb_last hG (pow_pos_of hb fun k hk => tz_even hb hk) (by have := tz_odd hb; omega) (hlen _))
  simp only [Nat.pow_zero, Nat.div_one] at h
  exact h
theorem cmp_cellsB (hG : Steady G) {Na Nb a b : Nat} (ha : (words a).length ≤ Na) (hb : (words b).length ≤ Nb) (h0 : Na < 35184372088832) (h1 : Nb < 35184372088832) :
    Spec Tryz.prog G 127 [.row (words a).length false ((dcel Na a).take ((words a).length * 1)), .row (words b).length false ((dcel Nb b).take ((words b).length * 1))] (int (cmpI a b)) := by
  have h := rcompare_specB (G := G) hG (l := words a) (m := words b) (dig_words _) (dig_words _) (by omega) (by omega)
  rw [val_words, val_words] at h
  rw [dcel_row ha, dcel_row hb]; exact h
theorem gm_roundB (hG : Steady G) {N0 N1 tw : Nat} (h0 : N0 < 35184372088832) (h1 : N1 < 35184372088832) {s : GS} (hf : s.fits N0 N1) (ha : 0 < s.a) (hb : 0 < s.b) :
    Goes Tryz.prog G 0 (loopOf Tryz.f122 1) (gst N0 N1 tw s) .normal (gst N0 N1 tw s.next) := by
  obtain ⟨sw, a, b⟩ := s
  have hla := len_mono (oddp_le a)
  have hlb := len_mono (oddp_le b)
  have g1 : decide (Int.ofNat (words a).length > 0) = true := by rw [len_pos_dec]; exact decide_eq_true ha
  unfold GS.next
  simp only at ha hb ⊢
  by_cases hlt : oddp a < oddp b
  · rw [if_pos hlt]
    have hls := len_mono (Nat.sub_le (oddp b) (oddp a))
    cases sw
    · obtain ⟨f1, f2⟩ := hf
      have f1 : (words a).length ≤ N0 := f1
      have f2 : (words b).length ≤ N1 := f2
      have q1 : (words (oddp a)).length ≤ N0 := by omega
      have q2 : (words (oddp b)).length ≤ N1 := by omega
      exact Goes.of_run hG (ro := []) (m := 40) (lay_len ..)
        [.eq 38 (eqB g1), .code (sa_loopB hG (tw := tw) (sw := false) (b := b) ha f1 h0 h1), .code (sb_loopB hG (tw := tw) (sw := false) (a := oddp a) hb f2 h0 h1), .call (cmp_cellsB hG q1 q2 h0 h1), .eq 56 (eqB (cmp_neg_true hlt)),
         .inl [] Tryz.func144, .code (tk_loopB hG true q2 q1 (Nat.le_of_lt hlt) h1), .inl [] Tryz.func145, .code (cut_loopB hG true (y := oddp b - oddp a) (dcel N0 (oddp a)) q2 h1 hls)] (by kernel_rfl)
    · obtain ⟨f1, f2⟩ := hf
      have f1 : (words b).length ≤ N0 := f1
      have f2 : (words a).length ≤ N1 := f2
      have q1 : (words (oddp b)).length ≤ N0 := by omega
      have q2 : (words (oddp a)).length ≤ N1 := by omega
      exact Goes.of_run hG (ro := []) (m := 40) (lay_len ..)
        [.eq 38 (eqB g1), .code (sa_loopB hG (tw := tw) (sw := true) (b := b) ha f2 h0 h1), .code (sb_loopB hG (tw := tw) (sw := true) (a := oddp a) hb f1 h0 h1), .call (cmp_cellsB hG q2 q1 h1 h0), .eq 56 (eqB (cmp_neg_true hlt)),
         .inl [] Tryz.func144, .code (tk_loopB hG false q1 q2 (Nat.le_of_lt hlt) h0), .inl [] Tryz.func145, .code (cut_loopB hG false (y := oddp b - oddp a) (dcel N1 (oddp a)) q1 h0 hls)] (by kernel_rfl)
  · rw [if_neg hlt]
    have hls := len_mono (Nat.sub_le (oddp a) (oddp b))
    cases sw
    · obtain ⟨f1, f2⟩ := hf
      have f1 : (words a).length ≤ N0 := f1
      have f2 : (words b).length ≤ N1 := f2
      have q1 : (words (oddp a)).length ≤ N0 := by omega
      have q2 : (words (oddp b)).length ≤ N1 := by omega
      exact Goes.of_run hG (ro := []) (m := 40) (lay_len ..)
        [.eq 38 (eqB g1), .code (sa_loopB hG (tw := tw) (sw := false) (b := b) ha f1 h0 h1), .code (sb_loopB hG (tw := tw) (sw := false) (a := oddp a) hb f2 h0 h1), .call (cmp_cellsB hG q1 q2 h0 h1), .eq 56 (eqB (cmp_neg_false hlt)),
         .inl [] Tryz.func144, .code (tk_loopB hG false q1 q2 (by omega) h0), .inl [] Tryz.func145, .code (cut_loopB hG false (y := oddp a - oddp b) (dcel N1 (oddp b)) q1 h0 hls)] (by kernel_rfl)
    · obtain ⟨f1, f2⟩ := hf
      have f1 : (words b).length ≤ N0 := f1
      have f2 : (words a).length ≤ N1 := f2
      have q1 : (words (oddp b)).length ≤ N0 := by omega
      have q2 : (words (oddp a)).length ≤ N1 := by omega
      exact Goes.of_run hG (ro := []) (m := 40) (lay_len ..)
        [.eq 38 (eqB g1), .code (sa_loopB hG (tw := tw) (sw := true) (b := b) ha f2 h0 h1), .code (sb_loopB hG (tw := tw) (sw := true) (a := oddp a) hb f1 h0 h1), .call (cmp_cellsB hG q2 q1 h1 h0), .eq 56 (eqB (cmp_neg_false hlt)),
         .inl [] Tryz.func144, .code (tk_loopB hG true q2 q1 (by omega) h1), .inl [] Tryz.func145, .code (cut_loopB hG true (y := oddp a - oddp b) (dcel N0 (oddp b)) q2 h1 hls)] (by kernel_rfl)
theorem gm_loopB (hG : Steady G) {N0 N1 tw : Nat} (h0 : N0 < 35184372088832) (h1 : N1 < 35184372088832) {s : GS} (hf : s.fits N0 N1) (hb : 0 < s.b) (h : Nat.gcd s.a s.b % 2 = 1) :
    ∃ sw, (GS.mk sw 0 (Nat.gcd s.a s.b)).fits N0 N1 ∧ Abs Tryz.prog G 72 0 (.loop (loopOf Tryz.f122 1)) (gst N0 N1 tw s) (.exit 2) (gst N0 N1 tw ⟨sw, 0, Nat.gcd s.a s.b⟩) := by
  obtain ⟨T, hT, hT0⟩ := GS.stops hb h
  have hfit : ∀ i, (s.nth i).fits N0 N1 := fun i => by
    induction i with
    | zero => exact hf
    | succ i ih => exact GS.next_fits ih
  have hend : s.nth T = ⟨(s.nth T).sw, 0, Nat.gcd s.a s.b⟩ := by
    obtain ⟨-, q2, -⟩ := GS.run hb h T hT
    rw [hT0, Nat.gcd_zero_left] at q2
    cases hs : s.nth T
    rw [hs] at hT0 q2
    simp only at hT0 q2 ⊢
    rw [hT0, q2]
  refine ⟨(s.nth T).sw, by rw [← hend]; exact hfit T, ?_⟩
  have hl := Abs.count (P := Tryz.prog) (Good := G) (gb := 0) (body := loopOf Tryz.f122 1) (e := .exit 2) (s' := gst N0 N1 tw ⟨(s.nth T).sw, 0, Nat.gcd s.a s.b⟩) (fun i => gst N0 N1 tw (s.nth i)) T (fun i => lay_len _ _ _) (by simp)
    (fun i hi => gm_roundB hG h0 h1 (hfit i) (hT i hi) (GS.run hb h i fun t ht => hT t (by omega)).1)
    (by have := gm_last (G := G) hG (N0 := N0) (N1 := N1) (tw := tw) (b := Nat.gcd s.a s.b) (sw := (s.nth T).sw)
        rw [← hend] at this ⊢; exact this)
  exact hl
theorem both_roundB (hG : Steady G) {N0 N1 k a b : Nat} (ha : 0 < a) (hb : 0 < b) (hea : a % 2 = 0) (heb : b % 2 = 0) (h0 : N0 < 35184372088832) (h1 : N1 < 35184372088832) (hn : (words a).length ≤ N0) (hm : (words b).length ≤ N1) (hk : k < 2 ^ 59) :
    Goes Tryz.prog G 0 (loopOf Tryz.f122 0) (gst N0 N1 k ⟨false, a, b⟩) .normal (gst N0 N1 (k + 1) ⟨false, a / 2, b / 2⟩) := by
  have h59 : (2:Nat) ^ 59 = 576460752303423488 := by decide
  have h60 : (2:Nat) ^ 60 = 1152921504606846976 := by decide
  exact Goes.of_run hG (ro := []) (m := 40) (lay_len ..)
    [.prop (zero_ix ha), .prop (zero_load ha hn), .eq 20 (zero_get ha hn), .eq 21 (eq32 (zero_and a)), .eq 22 (eqB (even_true hea)),
     .prop (zero_ix hb), .prop (zero_load hb hm), .eq 26 (zero_get hb hm), .eq 27 (eq32 (zero_and b)), .eq 28 (eqB (even_true heb)),
     .inl [] Tryz.func143, .code (hal_loopB hG false (x := a) (dcel N1 b) hn h0), .inl [] Tryz.func145, .code (cut_loopB hG false (y := a / 2) (dcel N1 b) hn h0 (len_half a)),
     .inl [] Tryz.func143, .code (hal_loopB hG true (x := b) (dcel N0 (a / 2)) hm h1), .inl [] Tryz.func145, .code (cut_loopB hG true (y := b / 2) (dcel N0 (a / 2)) hm h1 (len_half b)),
     .eq 35 (eqS (nat_succ (i := k) (by omega)))] (by kernel_rfl)
theorem both_loopB (hG : Steady G) {N0 N1 a b T : Nat} (ha : 0 < a) (hb : 0 < b) (h0 : N0 < 35184372088832) (h1 : N1 < 35184372088832) (hn : (words a).length ≤ N0) (hm : (words b).length ≤ N1)
    (hT : ∀ t, t < T → a / 2 ^ t % 2 = 0 ∧ b / 2 ^ t % 2 = 0) (hT2 : ¬ (a / 2 ^ T % 2 = 0 ∧ b / 2 ^ T % 2 = 0)) (hTl : T < 2 ^ 59) :
    Abs Tryz.prog G 72 0 (.loop (loopOf Tryz.f122 0)) (gst N0 N1 0 ⟨false, a, b⟩) (.exit 0) (gst N0 N1 T ⟨false, a / 2 ^ T, b / 2 ^ T⟩) := by
  have hla : ∀ i, (words (a / 2 ^ i)).length ≤ N0 := fun i => Nat.le_trans (len_mono (Nat.div_le_self _ _)) hn
  have hlb : ∀ i, (words (b / 2 ^ i)).length ≤ N1 := fun i => Nat.le_trans (len_mono (Nat.div_le_self _ _)) hm
  have h := Abs.count (P := Tryz.prog) (Good := G) (gb := 0) (body := loopOf Tryz.f122 0) (e := .exit 0) (s' := gst N0 N1 T ⟨false, a / 2 ^ T, b / 2 ^ T⟩) (fun i => gst N0 N1 i ⟨false, a / 2 ^ i, b / 2 ^ i⟩) T (fun i => lay_len _ _ _) (by simp)
    (fun i hi => by
      have := both_roundB (G := G) hG (k := i) (pow_pos_of ha fun k hk => (hT k (by omega)).1) (pow_pos_of hb fun k hk => (hT k (by omega)).2) (hT i hi).1 (hT i hi).2 h0 h1 (hla i) (hlb i) (by omega)
      rwa [← half_step, ← half_step] at this)
    (both_last hG (pow_pos_of ha fun k hk => (hT k hk).1) (pow_pos_of hb fun k hk => (hT k hk).2) hT2 (hla _) (hlb _))
  simp only [Nat.pow_zero, Nat.div_one] at h
  exact h
theorem rplus_wordsB (hG : Steady G) {a b : Nat} (ha : (words a).length ≤ 35184372087808) (hb : (words b).length ≤ 35184372087808) : Spec Tryz.prog G 126 [rowW (words a), rowW (words b)] (rowW (words (a + b))) := by
  have := rplus_specB (G := G) hG (dig_words a) (dig_words b) ha hb
  rwa [val_words, val_words] at this
theorem db_loopB (hG : Steady G) {T g : Nat} (hT : T < 2 ^ 59) (hl : (words (2 ^ T * g)).length ≤ 35184372087808) :
    Abs Tryz.prog G 72 0 (.loop (loopOf Tryz.f122 4)) (lay 72 [(1, rowW (words g)), (64, nat T), (65, nat 0)] []) (.exit 8) (dbInv T g T) := by
  have h59 : (2:Nat) ^ 59 = 576460752303423488 := by decide
  have h60 : (2:Nat) ^ 60 = 1152921504606846976 := by decide
  have h := Abs.count (P := Tryz.prog) (Good := G) (gb := 0) (body := loopOf Tryz.f122 4) (e := .exit 8) (s' := dbInv T g T) (dbInv T g) T (fun i => lay_len _ _ _) (by simp)
    (fun i hi => by
      have hle : (words (2 ^ i * g)).length ≤ 35184372087808 := Nat.le_trans (len_mono (Nat.mul_le_mul_right g (Nat.pow_le_pow_right (by omega) (Nat.le_of_lt hi)))) hl
      have e : 2 ^ (i + 1) * g = 2 ^ i * g + 2 ^ i * g := by rw [Nat.pow_succ]; grind
      unfold dbInv
      rw [e]
      exact Goes.of_run hG (ro := []) (m := 40) (lay_len ..) [.eq 66 (eqB (lt_true hi)), .call (rplus_wordsB hG hle hle), .eq 70 (eqS (nat_succ (i := i) (by omega)))] (by kernel_rfl))
    (Goes.of_run hG (ro := []) (m := 40) (lay_len ..) [.eq 66 (eqB (lt_false (Nat.le_refl T)))] (by kernel_rfl))
  unfold dbInv at h
  simp only [Nat.pow_zero, Nat.one_mul] at h
  exact h
theorem trim_needB (n : Nat) (h0 : 0 < n) (h : n ≤ 35184372087808) (l : List D) (hl : l.length = n) : 0 < n ∧ ([] : List D).length = 0 * 1 ∧ l.length = n * 1 ∧ 0 + n ≤ 2 ^ 62 ∧ (0 + n) * 4 ≤ 2 ^ 47 := by
  have h36 : (2:Nat) ^ 36 = 68719476736 := by decide
  have h62 : (2:Nat) ^ 62 = 4611686018427387904 := by decide
  have h47 : (2:Nat) ^ 47 = 140737488355328 := by decide
  exact ⟨h0, rfl, by omega, by omega, by omega⟩
theorem rgcd_zero_lB (hG : Steady G) {b : Nat} (hb : (words b).length ≤ 35184372087808) : Spec Tryz.prog G 122 [rowW (words 0), rowW (words b)] (rowW (words b)) := by
  have h36 : (2:Nat) ^ 36 = 68719476736 := by decide
  have h40 : (2:Nat) ^ 40 = 1099511627776 := by decide
  have t1 := rtrim_specB (G := G) hG (dig_words 0) (by decide)
  have t2 := rtrim_specB (G := G) hG (dig_words b) (by omega)
  rw [val_words] at t1 t2
  exact Spec.of_run hG Tryz.func122 (ro := []) (m := 40) [.call t1, .call t2, .eq 12 (eqB (x := (Int.ofNat (words 0).length == 0)) (y := true) rfl)] (by kernel_rfl)
theorem rgcd_zero_rB (hG : Steady G) {a : Nat} (h : 0 < a) (ha : (words a).length ≤ 35184372087808) : Spec Tryz.prog G 122 [rowW (words a), rowW (words 0)] (rowW (words a)) := by
  have h36 : (2:Nat) ^ 36 = 68719476736 := by decide
  have h40 : (2:Nat) ^ 40 = 1099511627776 := by decide
  have t1 := rtrim_specB (G := G) hG (dig_words a) (by omega)
  have t2 := rtrim_specB (G := G) hG (dig_words 0) (by decide)
  rw [val_words] at t1 t2
  exact Spec.of_run hG Tryz.func122 (ro := []) (m := 40) [.call t1, .call t2, .eq 12 (eqB (words_ne h)), .eq 16 (eqB (x := (Int.ofNat (words 0).length == 0)) (y := true) rfl)] (by kernel_rfl)
theorem rgcd_bothB (hG : Steady G) {a b : Nat} (ha0 : 0 < a) (hb0 : 0 < b) (ha : (words a).length ≤ 35184372087808) (hb : (words b).length ≤ 35184372087808) :
    Spec Tryz.prog G 122 [rowW (words a), rowW (words b)] (rowW (words (Nat.gcd a b))) := by
  have h36 : (2:Nat) ^ 36 = 68719476736 := by decide
  have h40 : (2:Nat) ^ 40 = 1099511627776 := by decide
  have h59 : (2:Nat) ^ 59 = 576460752303423488 := by decide
  have h60 : (2:Nat) ^ 60 = 1152921504606846976 := by decide
  have la := words_len_pos (n := a) (by omega)
  have lb := words_len_pos (n := b) (by omega)
  obtain ⟨T, hT, hT2⟩ := twos_exist (b := b) ha0
  have hTl : T ≤ 32 * (words a).length := by
    rcases Nat.eq_zero_or_pos T with e | e
    · omega
    · have hp := pow_pos_of ha0 (i := T) fun k hk => (hT k hk).1
      have h1 : 2 ^ T ≤ a := by
        rcases Nat.lt_or_ge a (2 ^ T) with q | q
        · rw [Nat.div_eq_of_lt q] at hp; omega
        · exact q
      have h2 := (len_le_iff a _).1 (Nat.le_refl _)
      rw [BP_two] at h2
      rcases Nat.lt_or_ge (32 * (words a).length) T with q | q
      · have := Nat.pow_le_pow_right (n := 2) (by omega) (Nat.le_of_lt q); omega
      · exact q
  have hg := twos_gcd T hT
  have hodd := gcd_odd hT2
  have hbT := pow_pos_of hb0 (i := T) fun k hk => (hT k hk).2
  have hboth := both_loopB (G := G) hG (N0 := (words a).length) (N1 := (words b).length) ha0 hb0 (by omega) (by omega) (Nat.le_refl _) (Nat.le_refl _) hT hT2 (by omega)
  have est : gst (words a).length (words b).length 0 ⟨false, a, b⟩ = lay 72 [(0, .gsl 0 (0 + (words a).length) 1), (1, .gsl 1 (0 + (words b).length) 1), (5, nat 0)] [(0, [] ++ (words a).map u32), (1, [] ++ (words b).map u32)] := by
    unfold gst blk2 dcel
    simp only [cond, Nat.zero_add, List.nil_append]
    rw [← words_digs_self, ← words_digs_self]
  rw [est] at hboth
  have hfit : (GS.mk false (a / 2 ^ T) (b / 2 ^ T)).fits (words a).length (words b).length := ⟨len_mono (Nat.div_le_self _ _), len_mono (Nat.div_le_self _ _)⟩
  obtain ⟨sw, hf, hmain⟩ := gm_loopB (G := G) hG (N0 := (words a).length) (N1 := (words b).length) (tw := T) (by omega) (by omega) hfit hbT hodd
  simp only at hf hmain
  generalize hgg : Nat.gcd (a / 2 ^ T) (b / 2 ^ T) = g at *
  have hle : (words (2 ^ T * g)).length ≤ 35184372087808 := by rw [hg]; exact Nat.le_trans (len_mono (Nat.gcd_le_left b ha0)) ha
  have hdb := db_loopB (G := G) hG (T := T) (g := g) (by omega) hle
  have ga : decide (Int.ofNat (0 + (words a).length) > 0) = true := by simp only [Int.ofNat_eq_natCast, decide_eq_true_eq]; omega
  have gb : decide (Int.ofNat (0 + (words b).length) > 0) = true := by simp only [Int.ofNat_eq_natCast, decide_eq_true_eq]; omega
  have na : IntKind.wrap .i64 (Int.ofNat (0 + (words a).length) - 1) = Int.ofNat ((words a).length - 1) := by rw [Nat.zero_add]; exact nat_pred (by omega) la
  have nb : IntKind.wrap .i64 (Int.ofNat (0 + (words b).length) - 1) = Int.ofNat ((words b).length - 1) := by rw [Nat.zero_add]; exact nat_pred (by omega) lb
  have ia : (0:Int) ≤ Int.ofNat ((words a).length - 1) ∧ Int.ofNat ((words a).length - 1) < ((0 + (words a).length : Nat) : Int) := by simp only [Int.ofNat_eq_natCast]; omega
  have ib : (0:Int) ≤ Int.ofNat ((words b).length - 1) ∧ Int.ofNat ((words b).length - 1) < ((0 + (words b).length : Nat) : Int) := by simp only [Int.ofNat_eq_natCast]; omega
  have pa : D.ptr 0 ((Int.ofNat ((words a).length - 1)).toNat * 1) = .ptr 0 ((words a).length - 1) := by simp
  have pb : D.ptr 1 ((Int.ofNat ((words b).length - 1)).toNat * 1) = .ptr 1 ((words b).length - 1) := by simp
  have va : 0 < 1 ∧ (words a).length - 1 + 1 ≤ ([] ++ (words a).map u32).length := by rw [List.nil_append, List.length_map]; omega
  have vb : 0 < 1 ∧ (words b).length - 1 + 1 ≤ ([] ++ (words b).map u32).length := by rw [List.nil_append, List.length_map]; omega
  have ca : (([] ++ (words a).map u32).drop ((words a).length - 1)).headD .any = u32 ((words a).getD ((words a).length - 1) 0) := by
    have := headD_u32 (l := words a) (i := (words a).length - 1) (by omega)
    rw [Nat.mul_one] at this; exact this
  have cb : (([] ++ (words b).map u32).drop ((words b).length - 1)).headD .any = u32 ((words b).getD ((words b).length - 1) 0) := by
    have := headD_u32 (l := words b) (i := (words b).length - 1) (by omega)
    rw [Nat.mul_one] at this; exact this
  have za : (Int.ofNat ((words a).getD ((words a).length - 1) 0) == 0) = false := by rw [beq_eq_false_iff_ne]; have := words_last (n := a) (by omega); simp only [Int.ofNat_eq_natCast]; omega
  have zb : (Int.ofNat ((words b).getD ((words b).length - 1) 0) == 0) = false := by rw [beq_eq_false_iff_ne]; have := words_last (n := b) (by omega); simp only [Int.ofNat_eq_natCast]; omega
  have wa : (Int.ofNat (0 + (words a).length) == 0) = false := by rw [beq_eq_false_iff_ne]; simp only [Int.ofNat_eq_natCast]; omega
  have wb : (Int.ofNat (0 + (words b).length) == 0) = false := by rw [beq_eq_false_iff_ne]; simp only [Int.ofNat_eq_natCast]; omega
  have ma := trim_needB (words a).length la ha ((words a).map u32) (by simp)
  have mb := trim_needB (words b).length lb hb ((words b).map u32) (by simp)
  rw [← hg]
  cases sw
  · have hf2 : (words g).length ≤ (words b).length := hf.2
    rw [← dcel_row hf2] at hdb
    exact Spec.of_run hG Tryz.func122 (ro := []) (m := 40)
      [.inl [] Tryz.func135, .prop ma, .eq 9 (eqB ga), .eq 14 (eqS na), .prop ia, .eq 15 pa, .prop va, .eq 16 ca, .eq 17 (eqB za),
       .inl [] Tryz.func135, .prop mb, .eq 9 (eqB gb), .eq 14 (eqS nb), .prop ib, .eq 15 pb, .prop vb, .eq 16 cb, .eq 17 (eqB zb),
       .eq 12 (eqB wa), .eq 16 (eqB wb), .code hboth, .code hmain, .freeze 1, .code hdb] (by kernel_rfl)
  · have hf2 : (words g).length ≤ (words a).length := hf.1
    rw [← dcel_row hf2] at hdb
    exact Spec.of_run hG Tryz.func122 (ro := []) (m := 40)
      [.inl [] Tryz.func135, .prop ma, .eq 9 (eqB ga), .eq 14 (eqS na), .prop ia, .eq 15 pa, .prop va, .eq 16 ca, .eq 17 (eqB za),
       .inl [] Tryz.func135, .prop mb, .eq 9 (eqB gb), .eq 14 (eqS nb), .prop ib, .eq 15 pb, .prop vb, .eq 16 cb, .eq 17 (eqB zb),
       .eq 12 (eqB wa), .eq 16 (eqB wb), .code hboth, .code hmain, .freeze 0, .code hdb] (by kernel_rfl)
theorem rgcd_specB (hG : Steady G) {a b : Nat} (ha : (words a).length ≤ 35184372087808) (hb : (words b).length ≤ 35184372087808) :
    Spec Tryz.prog G 122 [rowW (words a), rowW (words b)] (rowW (words (Nat.gcd a b))) := by
  rcases Nat.eq_zero_or_pos a with h | h
  · subst h; rw [Nat.gcd_zero_left]; exact rgcd_zero_lB hG hb
  · rcases Nat.eq_zero_or_pos b with h2 | h2
    · subst h2; rw [Nat.gcd_zero_right]; exact rgcd_zero_rB hG h ha
    · exact rgcd_bothB hG h h2 ha hb
theorem rminus_wordsB (hG : Steady G) {a b : Nat} (ha : (words a).length ≤ 35184372087808) (h : b ≤ a) : Spec Tryz.prog G 128 [rowW (words a), rowW (words b)] (rowW (words (a - b))) := by
  have := rminus_specB (G := G) hG (dig_words a) (dig_words b) (by rw [val_words, val_words]; exact h) ha
  rwa [val_words, val_words] at this
theorem rcmp_wordsB (hG : Steady G) {a b : Nat} (ha : (words a).length ≤ 35184372087808) (hb : (words b).length ≤ 35184372087808) : Spec Tryz.prog G 127 [rowW (words a), rowW (words b)] (int (cmpI a b)) := by
  have h36 : (2:Nat) ^ 36 = 68719476736 := by decide
  have h40 : (2:Nat) ^ 40 = 1099511627776 := by decide
  have := rcompare_specB (G := G) hG (dig_words a) (dig_words b) (by omega) (by omega)
  rwa [val_words, val_words] at this
theorem Rsign_wvB (hG : Steady G) {s : Bool} {n : Nat} (hs : s = true → 0 < n) (hn : (words n).length ≤ 35184372087808) : Spec Tryz.prog G 111 [wv s n] (int (if n = 0 then 0 else if s then -1 else 1)) := by
  rcases Nat.eq_zero_or_pos n with rfl | h
  · exact Spec.of_run hG Tryz.func111 (ro := [1]) (m := 30) [.call (rmag_specB hG hs hn)] (by kernel_rfl)
  · rw [if_neg (by omega)]
    cases s with
    | false => exact Spec.of_run hG Tryz.func111 (ro := [1]) (m := 30) [.call (rmag_specB hG hs hn), .eq 6 (eqB (words_ne h)), .call (rneg_specB hG hs hn)] (by kernel_rfl)
    | true => exact Spec.of_run hG Tryz.func111 (ro := [1]) (m := 30) [.call (rmag_specB hG hs hn), .eq 6 (eqB (words_ne h)), .call (rneg_specB hG hs hn)] (by kernel_rfl)
theorem RNeg_wvB (hG : Steady G) {s : Bool} {n : Nat} (hs : s = true → 0 < n) (hn : (words n).length ≤ 35184372087808) : Spec Tryz.prog G 112 [wv s n] (wv (!s && decide (0 < n)) n) := by
  cases s with
  | false => exact Spec.of_run hG Tryz.func112 (ro := [1]) (m := 30) [.call (rneg_specB hG hs hn), .call (rmag_specB hG hs hn), .call (rform_specB hG true hn)] (by kernel_rfl)
  | true => exact Spec.of_run hG Tryz.func112 (ro := [1]) (m := 30) [.call (rneg_specB hG hs hn), .call (rmag_specB hG hs hn), .call (rform_specB hG false hn)] (by kernel_rfl)
theorem RAdd_bigB (hG : Steady G) (s : Bool) {m n : Nat} (hs : s = true → 0 < m) (ht : (!s) = true → 0 < n) (hm : SzB m) (hn : SzB n) (h : n ≤ m) :
    Spec Tryz.prog G 95 [wv s m, wv (!s) n] (wv (s && decide (0 < m - n)) (m - n)) := by
  have hl : (words (m - n)).length ≤ 35184372087808 := Nat.le_trans (len_mono (Nat.sub_le _ _)) hm.leB
  have hw := rform_specB (G := G) hG s hl
  cases s <;>
    exact Spec.of_run hG Tryz.func95 (ro := [2, 3]) (m := 30)
      [.call (rmag_specB hG hs hm.leB), .call (rmag_specB hG ht hn.leB), .call (rneg_specB hG hs hm.leB), .call (rneg_specB hG ht hn.leB), .call (rcmp_wordsB hG hm.leB hn.leB), .eq 25 (eqB (cmp_ge0 h)),
       .call (rneg_specB hG hs hm.leB), .call (rminus_wordsB hG hm.leB h), .call hw] (by kernel_rfl)
theorem RSign_specB (hG : Steady G) {i : Int} (hi : SzIB i) : Spec Tryz.prog G 111 [W i] (int i.sign) := by
  obtain ⟨s, m, rfl, hs, hm⟩ := mk_of i
  unfold SzIB at hi
  rw [← hm] at hi
  rw [W_mk hs]
  have := Rsign_wvB (G := G) hG hs hi.leB
  have e : (mkI s m).sign = if m = 0 then 0 else if s then -1 else 1 := by
    cases s with
    | false =>
      show ((m : Int)).sign = if m = 0 then 0 else if false = true then -1 else 1
      by_cases h : m = 0
      · subst h; rfl
      · rw [if_neg h, if_neg (by simp)]; exact Int.sign_eq_one_of_pos (by omega)
    | true =>
      have := hs rfl
      show (-(m : Int)).sign = if m = 0 then 0 else if true = true then -1 else 1
      rw [if_neg (show ¬ m = 0 by omega), if_pos rfl]; exact Int.sign_eq_neg_one_of_neg (by omega)
  rw [e]; exact this
theorem RGcd_specB (hG : Steady G) {i j : Int} (hi : SzIB i) (hj : SzIB j) : Spec Tryz.prog G 91 [W i, W j] (W ((Int.gcd i j : Nat) : Int)) := by
  obtain ⟨s, m, rfl, hs, hm⟩ := mk_of i
  obtain ⟨t, n, rfl, ht, hn⟩ := mk_of j
  unfold SzIB at hi hj
  rw [← hm] at hi
  rw [← hn] at hj
  rw [W_mk hs, W_mk ht, W_nat]
  have e : Int.gcd (mkI s m) (mkI t n) = Nat.gcd m n := by unfold Int.gcd; rw [← hm, ← hn]
  rw [e]
  exact Spec.of_run hG Tryz.func91 (ro := [2, 3]) (m := 30)
    [.call (rmag_specB hG hs hi.leB), .call (rmag_specB hG ht hj.leB), .call (rgcd_specB hG hi.leB hj.leB), .call (rform_specB hG false (len_gcd hi.leB hj.leB))] (by kernel_rfl)
theorem wvone : W 1 = wv false 1 := rfl
theorem RCmp_oneB (hG : Steady G) {g : Nat} (h0 : 0 < g) (h : SzB g) : Spec Tryz.prog G 90 [wv false g, W 1] (int (cmpZ (g : Int) 1)) := by
  have s1 : SzB 1 := by unfold SzB; decide
  have ng := RNeg_wvB (G := G) hG (s := false) (n := 1) (by simp) s1
  have ad := RAdd_bigB (G := G) hG false (m := g) (n := 1) (by simp) (fun _ => by omega) h s1 h0
  have sz : SzB (g - 1) := Nat.le_trans (len_mono (Nat.sub_le _ _)) h
  have sg := Rsign_wvB (G := G) hG (s := false) (n := g - 1) (by simp) sz
  have sb : Spec Tryz.prog G 121 [wv false g, W 1] (wv false (g - 1)) := Spec.of_run hG Tryz.func121 (ro := [2, 3]) (m := 30) [.call ng, .call ad] (by kernel_rfl)
  have e : (if g - 1 = 0 then (0 : Int) else if false = true then -1 else 1) = cmpZ (g : Int) 1 := by
    unfold cmpZ
    rw [if_neg (show ¬ (g : Int) < 1 by omega)]
    by_cases hg : g = 1
    · subst hg; rfl
    · rw [if_neg (by omega), if_neg (by simp), if_pos (by omega)]
  rw [e] at sg
  exact Spec.of_run hG Tryz.func90 (ro := [2, 3]) (m := 30) [.call sb, .call sg] (by kernel_rfl)
theorem plain_specB (hG : Steady G) {l : List Nat} (hl : Dig l) (h1 : l.length ≤ 35184372087808) (h : l ≠ []) : Spec Tryz.prog G 89 [rowW l] (bool (Full l)) := by
  have h36 : (2:Nat) ^ 36 = 68719476736 := by decide
  have hp : 0 < l.length := List.length_pos_iff.2 h
  rw [full_last hl h]
  exact Spec.of_run hG Tryz.func89 (ro := []) (m := 30)
    [.eq 5 (eqB (x := decide (Int.ofNat l.length > 0)) (y := true) (by simp; omega)), .eq 10 (eqS (nat_pred (i := l.length) (by omega) hp)), .prop (at_need (l := l) (i := l.length - 1) (by omega)), .prop (load_need (l := l) (i := l.length - 1) (by omega)), .eq 12 (headD_need (l := l) (i := l.length - 1) (by omega)),
     .eq 13 (eqB (x := (Int.ofNat (l.getD (l.length - 1) 0) != 0)) (y := !(l.getD (l.length - 1) 0 == 0)) (by rw [Bool.eq_iff_iff]; simp))] (by kernel_rfl)
theorem RGcd_wvB (hG : Steady G) {s t : Bool} {m n : Nat} (hs : s = true → 0 < m) (ht : t = true → 0 < n) (hm : SzB m) (hn : SzB n) : Spec Tryz.prog G 91 [wv s m, wv t n] (wv false (Nat.gcd m n)) := by
  have h := RGcd_specB (G := G) hG (i := mkI s m) (j := mkI t n) (by unfold SzIB; rw [mkI_abs]; exact hm) (by unfold SzIB; rw [mkI_abs]; exact hn)
  rw [W_mk hs, W_mk ht, W_nat] at h
  have e : Int.gcd (mkI s m) (mkI t n) = Nat.gcd m n := by unfold Int.gcd; rw [mkI_abs, mkI_abs]
  rw [e] at h
  exact h
theorem RFValid_specB (hG : Steady G) {r : Raw} {k : Nat} (hr : r.ok k) (hk : k ≤ KBB) : Spec Tryz.prog G 55 [r.dat] (bool r.valid) := by
  have h30 : (2:Nat) ^ 30 = 1073741824 := by decide
  have h36 : (2:Nat) ^ 36 = 68719476736 := by decide
  obtain ⟨s, n, d⟩ := r
  obtain ⟨hn, hd, ln, ld, -⟩ := hr
  simp only at hn hd ln ld
  rw [KBB_eq] at hk
  by_cases en : n = []
  · subst en
    by_cases ed : d = []
    · subst ed
      exact Spec.of_run hG Tryz.func55 (ro := [1]) (m := 40) [] (by kernel_rfl)
    · have hv : (Raw.mk s [] d).valid = false := by
        unfold Raw.valid
        rw [if_neg (fun h => ed h.2)]
        exact decide_eq_false fun h => h.1 rfl
      rw [hv]
      exact Spec.of_run hG Tryz.func55 (ro := [1]) (m := 40) [.eq 11 (eqB (len_ne ed)), .call (plain_nil hG)] (by kernel_rfl)
  · have hv0 : (Raw.mk s n d).valid = decide (Raw.mk s n d).good := by unfold Raw.valid; rw [if_neg (fun h => en h.1)]
    have v1 := plain_specB (G := G) hG hn (by omega) en
    cases f1 : Full n with
    | false =>
      rw [f1] at v1
      have hv : (Raw.mk s n d).valid = false := by
        rw [hv0]
        refine decide_eq_false fun h => ?_
        have h3 : n = words (val n) := h.2.2.1
        rw [h3, Full_words] at f1; cases f1
      rw [hv]
      exact Spec.of_run hG Tryz.func55 (ro := [1]) (m := 40) [.eq 6 (eqB (len_ne en)), .call v1] (by kernel_rfl)
    | true =>
      rw [f1] at v1
      by_cases ed : d = []
      · subst ed
        have hv : (Raw.mk s n []).valid = false := by rw [hv0]; exact decide_eq_false fun h => h.2.1 rfl
        rw [hv]
        exact Spec.of_run hG Tryz.func55 (ro := [1]) (m := 40) [.eq 6 (eqB (len_ne en)), .call v1, .call (plain_nil hG)] (by kernel_rfl)
      · have v2 := plain_specB (G := G) hG hd (by omega) ed
        cases f2 : Full d with
        | false =>
          rw [f2] at v2
          have hv : (Raw.mk s n d).valid = false := by
            rw [hv0]
            refine decide_eq_false fun h => ?_
            have h3 : d = words (val d) := h.2.2.2.1
            rw [h3, Full_words] at f2; cases f2
          rw [hv]
          exact Spec.of_run hG Tryz.func55 (ro := [1]) (m := 40) [.eq 6 (eqB (len_ne en)), .call v1, .call v2] (by kernel_rfl)
        | true =>
          rw [f2] at v2
          obtain ⟨N, rfl⟩ := full_get f1
          obtain ⟨M, rfl⟩ := full_get f2
          have hN : 0 < N := by rcases Nat.eq_zero_or_pos N with e | e; (· subst e; exact absurd rfl en); exact e
          have hM : 0 < M := by rcases Nat.eq_zero_or_pos M with e | e; (· subst e; exact absurd rfl ed); exact e
          have szg : SzB (Nat.gcd N M) := Nat.le_trans (len_gcd (k := k) ln ld) hk
          have g1 := RGcd_wvB (G := G) hG (s := false) (t := false) (m := N) (n := M) (by simp) (by simp) (by unfold SzB; omega) (by unfold SzB; omega)
          have hv : (Raw.mk s (words N) (words M)).valid = decide (Nat.gcd N M = 1) := by rw [hv0]; exact decide_eq_decide.2 (good_iff s N M hN hM)
          rw [hv]
          exact Spec.of_run hG Tryz.func55 (ro := [1]) (m := 40)
            [.eq 6 (eqB (len_ne en)), .call v1, .call v2, .call g1, .call (rone_spec hG), .call (RCmp_oneB hG (Nat.gcd_pos_of_pos_left _ hN) szg), .eq 34 (eqB (cmp_one (Nat.gcd N M)))] (by kernel_rfl)
theorem RParts_specB (hG : Steady G) {r : Raw} {k : Nat} (hr : r.ok k) (hk : k ≤ KBB) : Spec Tryz.prog G 93 [r.dat] (.tup [W r.q.num, W r.q.den]) := by
  have hv := RFValid_specB (G := G) hG hr hk
  by_cases hg : r.good
  · obtain ⟨e1, e2⟩ := Raw.q_parts hg
    have p1 := Raw.good_num hg
    have p2 := Raw.good_den hg
    rw [Raw.good_valid hg] at hv
    rw [e1, e2, W_mk (fun _ => p1), W_nat]
    obtain ⟨s, n, d⟩ := r
    obtain ⟨g1, g2, g3, g4, -⟩ := hg
    simp only at g1 g2 g3 g4 p1 p2 ⊢
    have w1 : wv s (val n) = .agg [bool s, rowW n] := by unfold wv; rw [← g3]
    have w2 : wv (false && decide (0 < val d)) (val d) = .agg [bool false, rowW d] := by unfold wv; rw [← g4]; rfl
    rw [w1, w2]
    exact Spec.of_run hG Tryz.func93 (ro := [1]) (m := 40) [.call hv, .eq 11 (eqB (len_ne g1))] (by kernel_rfl)
  · rw [Raw.q_zero hg]
    rcases Raw.bad hg with h | h
    · rw [h] at hv
      exact Spec.of_run hG Tryz.func93 (ro := [1]) (m := 40) [.call hv, .call (rone_spec hG)] (by kernel_rfl)
    · subst h
      exact Spec.of_run hG Tryz.func93 (ro := [1]) (m := 40) [.call hv, .call (rone_spec hG)] (by kernel_rfl)
theorem RFSign_rawB (hG : Steady G) {k : Nat} {r : Raw} (hr : r.ok k) (hk : k ≤ KBB) : Spec Tryz.prog G 92 [r.dat] (int (sgn r.q)) := by
  have p1 := RParts_specB (G := G) hG hr hk
  have n1 := RSign_specB (G := G) hG (i := r.q.num) (Nat.le_trans (Raw.ok.sz hr).1 hk)
  exact Spec.of_run hG Tryz.func92 (ro := [1]) (m := 40) [.call p1, .call n1] (by kernel_rfl)
theorem PZero_rawB (hG : Steady G) {k : Nat} {r : Raw} (hr : r.ok k) (hk : k ≤ KBB) : Spec Tryz.prog G 56 [r.dat] (bool (decide (r.q = 0))) := by
  have s := RFSign_rawB (G := G) hG hr hk
  rw [← sgn_dec]
  exact Spec.of_run hG Tryz.func56 (ro := [1]) (m := 40) [.call s] (by kernel_rfl)
theorem PRTurn_specB (hG : Steady G) {k : Nat} {r : RTn} (hr : r.ok k) (hk : k ≤ KBB) : Spec Tryz.prog G 18 [r.dat] (bool r.valid) := by
  have f1 := RFValid_specB (G := G) hG hr hk
  have z1 := PZero_rawB (G := G) hG hr hk
  obtain ⟨t, h⟩ := r
  have f2 : Spec Tryz.prog G 55 [t.dat] (bool t.valid) := f1
  have z2 : Spec Tryz.prog G 56 [t.dat] (bool (decide (t.q = 0))) := z1
  clear f1 z1
  unfold RTn.valid
  cases hv1 : t.valid with
  | false =>
    rw [hv1] at f2
    exact Spec.of_run hG Tryz.func18 (ro := [1]) (m := 40) [.call f2] (by kernel_rfl)
  | true =>
    rw [hv1] at f2
    cases h with
    | false => exact Spec.of_run hG Tryz.func18 (ro := [1]) (m := 40) [.call f2] (by kernel_rfl)
    | true =>
      by_cases h0 : t.q = 0
      · rw [decide_eq_true h0] at z2
        rw [decide_eq_false (not_not_intro h0)]
        exact Spec.of_run hG Tryz.func18 (ro := [1]) (m := 40) [.call f2, .call z2] (by kernel_rfl)
      · rw [decide_eq_false h0] at z2
        rw [decide_eq_true h0]
        exact Spec.of_run hG Tryz.func18 (ro := [1]) (m := 40) [.call f2, .call z2] (by kernel_rfl)
end Lw
