/- The contracts of the reference's integers: words, sums, differences, order. No condition. -/
import Derived.Test.YtfdllnbmjlhliaaGreatDoorLwZa
namespace Lw
open Go Go.RowKit Go.Proofs

variable {G : World → Prop}

theorem at_out (hG : Steady G) (l : List Nat) (i : Nat) (h : l.length ≤ i) : Spec Tryz.prog G 147 [rowW l, nat i] (u64 0) :=
  Spec.of_run hG Tryz.func147 (ro := []) (m := 30)
    [.eq 8 (eqB (x := decide (Int.ofNat i < Int.ofNat l.length)) (y := false) (by simp; omega))] (by kernel_rfl)
theorem at_in (hG : Steady G) (l : List Nat) (hl : Dig l) (i : Nat) (h : i < l.length) : Spec Tryz.prog G 147 [rowW l, nat i] (u64 (l.getD i 0)) :=
  Spec.of_run hG Tryz.func147 (ro := []) (m := 30)
    [.eq 8 (eqB (x := decide (Int.ofNat i < Int.ofNat l.length)) (y := true) (by simp; omega)), .prop (at_need h), .prop (load_need h), .eq 12 (headD_need h),
     .eq 13 (eq64 (x := IntKind.wrap .u64 (Int.ofNat (l.getD i 0))) (y := Int.ofNat (l.getD i 0)) (wrap64 (by have := hl.getD i; omega)))] (by kernel_rfl)
theorem at_spec (hG : Steady G) (l : List Nat) (hl : Dig l) (i : Nat) : Spec Tryz.prog G 147 [rowW l, nat i] (u64 (l.getD i 0)) := by
  rcases Nat.lt_or_ge i l.length with h | h
  · exact at_in hG l hl i h
  · have := at_out hG l i h
    rwa [show l.getD i 0 = 0 by simp [List.getD_eq_getElem?_getD, List.getElem?_eq_none h]]

/-! ### trim -/
theorem val_snoc0 : ∀ l : List Nat, val (l ++ [0]) = val l
  | [] => rfl
  | x :: l => by show x + 4294967296 * val (l ++ [0]) = _; rw [val_snoc0 l]; rfl
theorem val_dropLast {m : List Nat} (h : m ≠ []) (hz : m.getD (m.length - 1) 0 = 0) : val m.dropLast = val m := by
  have h1 := List.dropLast_concat_getLast h
  have h2 : m.getLast h = 0 := by
    rw [List.getLast_eq_getElem]
    have hl : m.length - 1 < m.length := by have := List.length_pos_iff.2 h; omega
    rw [List.getD_eq_getElem?_getD, List.getElem?_eq_getElem hl] at hz
    exact hz
  rw [h2] at h1
  conv => rhs; rw [← h1]
  rw [val_snoc0]
theorem dig_dropLast {m : List Nat} (h : Dig m) : Dig m.dropLast := by rw [List.dropLast_eq_take]; exact h.take _
def rtrimInv (m : List Nat) : St := lay 25 [(3, rowW m)] []
theorem rtrim_round (hG : Steady G) {m : List Nat} (hb : m.length < 2 ^ 60) (h : m ≠ []) (hz : m.getD (m.length - 1) 0 = 0) :
    Goes Tryz.prog G 0 (loopOf Tryz.f135 0) (rtrimInv m) .normal (rtrimInv m.dropLast) := by
  have hp : 0 < m.length := List.length_pos_iff.2 h
  have e : D.row ((Int.ofNat (m.length - 1)).toNat - (0:Int).toNat) (false && false) (((m.map u32).drop ((0:Int).toNat * 1)).take (((Int.ofNat (m.length - 1)).toNat - (0:Int).toNat) * 1)) = rowW m.dropLast := by
    simp only [Int.ofNat_eq_natCast, Int.toNat_natCast, Int.toNat_zero, Nat.mul_one, Nat.sub_zero, List.drop_zero, Bool.false_and]
    rw [← List.map_take, ← List.dropLast_eq_take]
    unfold rowW
    rw [List.length_dropLast]
  exact Goes.of_run hG (ro := []) (m := 30) (lay_len ..)
    [.eq 9 (eqB (x := decide (Int.ofNat m.length > 0)) (y := true) (by simp; omega)), .eq 14 (eqS (nat_pred (i := m.length) (by omega) hp)), .prop (at_need (l := m) (i := m.length - 1) (by omega)), .prop (load_need (l := m) (i := m.length - 1) (by omega)),
     .eq 16 (headD_need (l := m) (i := m.length - 1) (by omega)), .eq 17 (eqB (x := Int.ofNat (m.getD (m.length - 1) 0) == 0) (y := true) (by rw [hz]; rfl)), .eq 22 (eqS (nat_pred (i := m.length) (by omega) hp)),
     .prop (p := (0:Int) ≤ 0 ∧ 0 ≤ Int.ofNat (m.length - 1) ∧ Int.ofNat (m.length - 1) ≤ (m.length : Int)) (by simp only [Int.ofNat_eq_natCast]; omega), .eq 23 e] (by kernel_rfl)
theorem rtrim_last (hG : Steady G) {m : List Nat} (hb : m.length < 2 ^ 60) (hd : Dig m) (hz : m ≠ [] → m.getD (m.length - 1) 0 ≠ 0) :
    Goes Tryz.prog G 0 (loopOf Tryz.f135 0) (rtrimInv m) (.exit 0) (rtrimInv (words (val m))) := by
  rw [words_canon hd hz]
  by_cases h : m = []
  · subst h
    exact Goes.of_run hG (ro := []) (m := 30) (lay_len ..) [] (by kernel_rfl)
  · have hp : 0 < m.length := List.length_pos_iff.2 h
    have hz' : (Int.ofNat (m.getD (m.length - 1) 0) == 0) = false := by rw [beq_eq_false_iff_ne]; have := hz h; simp only [Int.ofNat_eq_natCast]; omega
    exact Goes.of_run hG (ro := []) (m := 30) (lay_len ..)
      [.eq 9 (eqB (x := decide (Int.ofNat m.length > 0)) (y := true) (by simp; omega)), .eq 14 (eqS (nat_pred (i := m.length) (by omega) hp)), .prop (at_need (l := m) (i := m.length - 1) (by omega)), .prop (load_need (l := m) (i := m.length - 1) (by omega)),
       .eq 16 (headD_need (l := m) (i := m.length - 1) (by omega)), .eq 17 (eqB hz')] (by kernel_rfl)
theorem rtrim_loop (hG : Steady G) {l : List Nat} (hd : Dig l) (hb : l.length < 2 ^ 60) :
    Abs Tryz.prog G 25 0 (.loop (loopOf Tryz.f135 0)) (lay 25 [(3, rowW l)] []) (.exit 0) (rtrimInv (words (val l))) := by
  refine Abs.rounds (fun m : List Nat => Dig m ∧ val m = val l ∧ m.length < 2 ^ 60) rtrimInv (fun m => m.length) (fun m => lay_len _ _ _) (by simp) (fun m hm => ?_) l ⟨hd, rfl, hb⟩
  obtain ⟨h1, h2, h3⟩ := hm
  by_cases hc : m ≠ [] ∧ m.getD (m.length - 1) 0 = 0
  · left
    have hp : 0 < m.length := List.length_pos_iff.2 hc.1
    exact ⟨m.dropLast, ⟨dig_dropLast h1, by rw [val_dropLast hc.1 hc.2, h2], by rw [List.length_dropLast]; omega⟩, by rw [List.length_dropLast]; omega, rtrim_round hG h3 hc.1 hc.2⟩
  · right
    rw [← h2]
    exact rtrim_last hG h3 h1 (fun hn hz => hc ⟨hn, hz⟩)
theorem rtrim_spec (hG : Steady G) {l : List Nat} (hd : Dig l) (hb : l.length ≤ 2 ^ 40) : Spec Tryz.prog G 135 [rowW l] (rowW (words (val l))) := by
  have h40 : (2:Nat) ^ 40 = 1099511627776 := by decide
  exact Spec.of_run hG Tryz.func135 (ro := [6]) (m := 30)
    [.prop (p := ([] : List D).length = 0 * 1 ∧ (l.map u32).length = l.length * 1 ∧ 0 + l.length ≤ 2 ^ 62 ∧ (0 + l.length) * 4 ≤ 2 ^ 47) (by simp; omega),
     .eq 6 (d := .row (0 + l.length) false ([] ++ l.map u32)) (d' := rowW l) (by simp [rowW]), .code (rtrim_loop hG hd (by omega))] (by kernel_rfl)

/-! ### Valid mag neg form -/
theorem rvalid_spec (hG : Steady G) {s : Bool} {n : Nat} (hs : s = true → 0 < n) (hn : (words n).length ≤ 2 ^ 36) : Spec Tryz.prog G 146 [wv s n] (bool true) := by
  have h36 : (2:Nat) ^ 36 = 68719476736 := by decide
  rcases Nat.eq_zero_or_pos n with h | h
  · subst h
    cases s with
    | true => have := hs rfl; omega
    | false => exact Spec.of_run hG Tryz.func146 (ro := [1]) (m := 30) [] (by kernel_rfl)
  · have hp := words_len_pos (n := n) (by omega)
    have hz := words_last (n := n) (by omega)
    exact Spec.of_run hG Tryz.func146 (ro := [1]) (m := 30)
      [.eq 6 (eqB (words_ne h)), .eq 15 (eqS (nat_pred (i := (words n).length) (by omega) hp)), .prop (at_need (l := words n) (i := (words n).length - 1) (by omega)), .prop (load_need (l := words n) (i := (words n).length - 1) (by omega)),
       .eq 17 (headD_need (l := words n) (i := (words n).length - 1) (by omega)), .eq 18 (eqB (x := (Int.ofNat ((words n).getD ((words n).length - 1) 0) != 0)) (y := true) (by rw [bne_iff_ne]; simp only [Int.ofNat_eq_natCast]; omega))] (by kernel_rfl)
theorem rmag_spec (hG : Steady G) {s : Bool} {n : Nat} (hs : s = true → 0 < n) (hn : (words n).length ≤ 2 ^ 36) : Spec Tryz.prog G 123 [wv s n] (rowW (words n)) :=
  Spec.of_run hG Tryz.func123 (ro := [1]) (m := 30) [.call (rvalid_spec hG hs hn)] (by kernel_rfl)
theorem rneg_spec (hG : Steady G) {s : Bool} {n : Nat} (hs : s = true → 0 < n) (hn : (words n).length ≤ 2 ^ 36) : Spec Tryz.prog G 124 [wv s n] (bool s) :=
  Spec.of_run hG Tryz.func124 (ro := [1]) (m := 30) [.call (rvalid_spec hG hs hn)] (by kernel_rfl)
theorem rform_any (hG : Steady G) (s : Bool) {l : List Nat} (hl : Dig l) (hn : l.length ≤ 2 ^ 40) : Spec Tryz.prog G 114 [bool s, rowW l] (wv (s && decide (0 < val l)) (val l)) := by
  rcases Nat.eq_zero_or_pos (val l) with h | h
  · have ht := rtrim_spec (G := G) hG hl hn
    rw [h] at ht ⊢
    have e : (s && decide (0 < 0)) = false := by simp
    rw [e]
    exact Spec.of_run hG Tryz.func114 (ro := []) (m := 30) [.call ht, .eq 9 (eqB (x := (Int.ofNat (words 0).length == 0)) (y := true) rfl)] (by kernel_rfl)
  · have e : (s && decide (0 < val l)) = s := by rw [decide_eq_true h, Bool.and_true]
    rw [e]
    exact Spec.of_run hG Tryz.func114 (ro := []) (m := 30) [.call (rtrim_spec hG hl hn), .eq 9 (eqB (words_ne h))] (by kernel_rfl)
theorem rform_spec (hG : Steady G) (s : Bool) {n : Nat} (hn : (words n).length ≤ 2 ^ 36) : Spec Tryz.prog G 114 [bool s, rowW (words n)] (wv (s && decide (0 < n)) n) := by
  have h36 : (2:Nat) ^ 36 = 68719476736 := by decide
  have h40 : (2:Nat) ^ 40 = 1099511627776 := by decide
  have := rform_any (G := G) hG s (dig_words n) (by omega)
  rwa [val_words] at this

/-! ### plus -/
theorem digs_snoc (N n : Nat) : digs (N + 1) n = digs N n ++ [n / BP N % 4294967296] := by simp [digs, List.range_succ]
theorem digs_map_snoc (N n : Nat) : (digs N n).map u32 ++ [u32 (n / BP N % 4294967296)] = (digs (N + 1) n).map u32 := by rw [digs_snoc]; simp
theorem grow_need {n : Nat} {cs : List D} (h : cs.length = n) (hn : n < 2 ^ 40) {x : D} : 0 < 1 ∧ cs.length = n * 1 ∧ [x].length = 1 * 1 ∧ n + 1 ≤ 2 ^ 62 ∧ (n + 1) * 4 ≤ 2 ^ 47 := by
  have h40 : (2:Nat) ^ 40 = 1099511627776 := by decide
  have h62 : (2:Nat) ^ 62 = 4611686018427387904 := by decide
  have h47 : (2:Nat) ^ 47 = 140737488355328 := by decide
  exact ⟨by omega, by omega, rfl, by omega, by omega⟩
def rplusInv (l m : List Nat) : Nat → St
  | 0 => lay 37 [(0, rowW l), (1, rowW m), (5, .row 0 true []), (6, u64 0), (14, nat (plusN l m)), (15, nat 0)] []
  | i + 1 => lay 37 [(0, rowW l), (1, rowW m), (5, .gsl 0 (i + 1) 1), (6, u64 (cAdd (val l) (val m) (i + 1))), (14, nat (plusN l m)), (15, nat (i + 1))] [(0, (digs (i + 1) (val l + val m)).map u32)]
theorem rplus_round (hG : Steady G) {l m : List Nat} (hl : Dig l) (hm : Dig m) {i : Nat} (hi : i < plusN l m) (hb : plusN l m < 2 ^ 40) :
    Goes Tryz.prog G 0 (loopOf Tryz.f126 0) (rplusInv l m i) .normal (rplusInv l m (i + 1)) := by
  have h40 : (2:Nat) ^ 40 = 1099511627776 := by decide
  have h60 : (2:Nat) ^ 60 = 1152921504606846976 := by decide
  have hs := cAdd_step (val l) (val m) i
  have hd := cAdd_dig (val l) (val m) i
  rw [← getD_val hl, ← getD_val hm] at hs hd
  have h1 := hl.getD i
  have h2 := hm.getD i
  have h3 := cAdd_le (val l) (val m) i
  cases i with
  | zero =>
    rw [cAdd_zero] at hs hd
    have e : rplusInv l m (0 + 1) = lay 37 [(0, rowW l), (1, rowW m), (5, .gsl 0 (0 + 1) 1), (6, u64 (cAdd (val l) (val m) (0 + 1))), (14, nat (plusN l m)), (15, nat (0 + 1))] [(0, [] ++ [u32 ((val l + val m) / BP 0 % 4294967296)])] := by
      show lay 37 _ _ = _
      rw [← digs_map_snoc]; rfl
    rw [e]; clear e
    exact Goes.of_run hG (ro := []) (m := 30) (lay_len ..)
      [.eq 16 (eqB (lt_true hi)), .call (at_spec hG l hl 0), .call (at_spec hG m hm 0),
       .eq 24 (eq64 (x := IntKind.wrap .u64 (Int.ofNat (l.getD 0 0) + Int.ofNat (m.getD 0 0))) (y := Int.ofNat (l.getD 0 0 + m.getD 0 0)) (wrap64 (n := l.getD 0 0 + m.getD 0 0) (by omega))),
       .eq 26 (eq64 (x := IntKind.wrap .u64 (Int.ofNat (l.getD 0 0 + m.getD 0 0) + Int.ofNat 0)) (y := Int.ofNat (0 + (l.getD 0 0 + m.getD 0 0))) (by rw [Nat.zero_add]; exact wrap64 (n := l.getD 0 0 + m.getD 0 0) (by omega))),
       .eq 29 (eq32 (x := IntKind.wrap .u32 (Int.ofNat (0 + (l.getD 0 0 + m.getD 0 0)))) (y := Int.ofNat ((val l + val m) / BP 0 % 4294967296)) (by rw [← hd]; exact wrap32)),
       .prop (grow_need (n := 0) (cs := []) (x := u32 ((val l + val m) / BP 0 % 4294967296)) rfl (by omega)),
       .eq 33 (eq64 (x := (Int.ofNat (0 + (l.getD 0 0 + m.getD 0 0))).fdiv (2 ^ min (Int.toNat 32) (IntKind.bits .u64))) (y := Int.ofNat (cAdd (val l) (val m) (0 + 1))) (by rw [shr32, ← hs])),
       .eq 34 (eqS (nat_succ (i := 0) (by omega)))] (by kernel_rfl)
  | succ i =>
    have e : rplusInv l m (i + 1 + 1) = lay 37 [(0, rowW l), (1, rowW m), (5, .gsl 0 (i + 1 + 1) 1), (6, u64 (cAdd (val l) (val m) (i + 1 + 1))), (14, nat (plusN l m)), (15, nat (i + 1 + 1))] [(0, (digs (i + 1) (val l + val m)).map u32 ++ [u32 ((val l + val m) / BP (i + 1) % 4294967296)])] := by
      show lay 37 _ _ = _
      rw [digs_map_snoc]
    rw [e]; clear e
    exact Goes.of_run hG (ro := []) (m := 30) (lay_len ..)
      [.eq 16 (eqB (lt_true hi)), .call (at_spec hG l hl (i + 1)), .call (at_spec hG m hm (i + 1)),
       .eq 24 (eq64 (x := IntKind.wrap .u64 (Int.ofNat (l.getD (i + 1) 0) + Int.ofNat (m.getD (i + 1) 0))) (y := Int.ofNat (l.getD (i + 1) 0 + m.getD (i + 1) 0)) (wrap64 (n := l.getD (i + 1) 0 + m.getD (i + 1) 0) (by omega))),
       .eq 26 (eq64 (x := IntKind.wrap .u64 (Int.ofNat (l.getD (i + 1) 0 + m.getD (i + 1) 0) + Int.ofNat (cAdd (val l) (val m) (i + 1)))) (y := Int.ofNat (cAdd (val l) (val m) (i + 1) + (l.getD (i + 1) 0 + m.getD (i + 1) 0)))
         (by rw [Nat.add_comm (cAdd (val l) (val m) (i + 1))]; exact wrap64 (n := l.getD (i + 1) 0 + m.getD (i + 1) 0 + cAdd (val l) (val m) (i + 1)) (by omega))),
       .eq 29 (eq32 (x := IntKind.wrap .u32 (Int.ofNat (cAdd (val l) (val m) (i + 1) + (l.getD (i + 1) 0 + m.getD (i + 1) 0)))) (y := Int.ofNat ((val l + val m) / BP (i + 1) % 4294967296)) (by rw [← hd]; exact wrap32)),
       .prop (grow_need (n := i + 1) (cs := (digs (i + 1) (val l + val m)).map u32) (x := u32 ((val l + val m) / BP (i + 1) % 4294967296)) (by rw [List.length_map, digs_len]) (by omega)),
       .eq 33 (eq64 (x := (Int.ofNat (cAdd (val l) (val m) (i + 1) + (l.getD (i + 1) 0 + m.getD (i + 1) 0))).fdiv (2 ^ min (Int.toNat 32) (IntKind.bits .u64))) (y := Int.ofNat (cAdd (val l) (val m) (i + 1 + 1))) (by rw [shr32, ← hs])),
       .eq 34 (eqS (nat_succ (i := i + 1) (by omega)))] (by kernel_rfl)
theorem rplus_last (hG : Steady G) {l m : List Nat} : Goes Tryz.prog G 0 (loopOf Tryz.f126 0) (rplusInv l m (max l.length m.length + 1)) (.exit 0) (rplusInv l m (max l.length m.length + 1)) :=
  Goes.of_run hG (ro := []) (m := 30) (lay_len ..) [.eq 16 (eqB (lt_false (Nat.le_refl (plusN l m))))] (by kernel_rfl)
theorem rplus_loop (hG : Steady G) {l m : List Nat} (hl : Dig l) (hm : Dig m) (hb : plusN l m < 2 ^ 40) :
    Abs Tryz.prog G 37 0 (.loop (loopOf Tryz.f126 0)) (lay 37 [(0, rowW l), (1, rowW m), (5, .row 0 true []), (6, u64 0), (14, nat (plusN l m)), (15, nat 0)] []) (.exit 0)
      (rplusInv l m (max l.length m.length + 1)) :=
  Abs.count (rplusInv l m) (plusN l m) (fun i => by cases i <;> exact lay_len _ _ _) (by simp) (fun i hi => rplus_round hG hl hm hi hb) (rplus_last hG)
theorem rplus_spec (hG : Steady G) {l m : List Nat} (hl : Dig l) (hm : Dig m) (h1 : l.length ≤ 2 ^ 36) (h2 : m.length ≤ 2 ^ 36) :
    Spec Tryz.prog G 126 [rowW l, rowW m] (rowW (words (val l + val m))) := by
  have h36 : (2:Nat) ^ 36 = 68719476736 := by decide
  have h40 : (2:Nat) ^ 40 = 1099511627776 := by decide
  have hN : plusN l m < 2 ^ 40 := by unfold plusN; omega
  have hfit := plus_fits hl hm
  have ht := rtrim_spec (G := G) hG (l := digs (plusN l m) (val l + val m)) (digs_dig _ _) (by rw [digs_len]; omega)
  rw [words_digs hfit] at ht
  refine Spec.of_run hG Tryz.func126 (ro := []) (m := 30) (args := [rowW l, rowW m])
    [.eq 13 (eqS (max_len l m)), .eq 14 (eqS (nat_succ (i := max l.length m.length) (by omega))), .code (rplus_loop hG hl hm hN), .freeze 0,
     .eq 35 (d := D.row (max l.length m.length + 1) false (((digs (max l.length m.length + 1) (val l + val m)).map u32).take ((max l.length m.length + 1) * 1))) (d' := rowW (digs (plusN l m) (val l + val m))) ?_, .call ht] (by kernel_rfl)
  unfold rowW plusN
  rw [List.take_of_length_le (by simp [digs_len]), digs_len]
end Lw
