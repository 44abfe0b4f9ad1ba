/- The contracts of the reference's integers: words, sums, differences, order. No condition. -/
import Derived.Test.YtmcpfihkambgnaaGreatLwU
namespace Lw
open Go Go.RowKit Go.Proofs

variable {G : World → Prop}

theorem at_out (hG : Steady G) (l : List Nat) (i : Nat) (h : l.length ≤ i) : Spec Tryz.prog G 291 [rowW l, nat i] (u64 0) :=
  Spec.of_run hG Tryz.func291 (ro := []) (m := 30)
    [.eq 8 (eqB (x := decide (Int.ofNat i < Int.ofNat l.length)) (y := false) (by simp; omega))] (by kernel_rfl)
theorem at_in (hG : Steady G) (l : List Nat) (hl : Dig l) (i : Nat) (h : i < l.length) : Spec Tryz.prog G 291 [rowW l, nat i] (u64 (l.getD i 0)) :=
  Spec.of_run hG Tryz.func291 (ro := []) (m := 30)
    [.eq 8 (eqB (x := decide (Int.ofNat i < Int.ofNat l.length)) (y := true) (by simp; omega)), .prop (at_need h), .prop (load_need h), .eq 12 (headD_need h),
     .eq 13 (eq64 (x := IntKind.wrap .u64 (Int.ofNat (l.getD i 0))) (y := Int.ofNat (l.getD i 0)) (wrap64 (by have := hl.getD i; omega)))] (by kernel_rfl)
theorem at_spec (hG : Steady G) (l : List Nat) (hl : Dig l) (i : Nat) : Spec Tryz.prog G 291 [rowW l, nat i] (u64 (l.getD i 0)) := by
  rcases Nat.lt_or_ge i l.length with h | h
  · exact at_in hG l hl i h
  · have := at_out hG l i h
    rwa [show l.getD i 0 = 0 by simp [List.getD_eq_getElem?_getD, List.getElem?_eq_none h]]

/-! ### trim -/
theorem val_snoc0 : ∀ l : List Nat, val (l ++ [0]) = val l
  | [] => rfl
  | x :: l => by show x + 4294967296 * val (l ++ [0]) = _; rw [val_snoc0 l]; rfl
theorem val_dropLast {m : List Nat} (h : m ≠ []) (hz : m.getD (m.length - 1) 0 = 0) : val m.dropLast = val m := by
  have h1 := List.dropLast_concat_getLast h
  have h2 : m.getLast h = 0 := by
    rw [List.getLast_eq_getElem]
    have hl : m.length - 1 < m.length := by have := List.length_pos_iff.2 h; omega
    rw [List.getD_eq_getElem?_getD, List.getElem?_eq_getElem hl] at hz
    exact hz
  rw [h2] at h1
  conv => rhs; rw [← h1]
  rw [val_snoc0]
theorem dig_dropLast {m : List Nat} (h : Dig m) : Dig m.dropLast := by rw [List.dropLast_eq_take]; exact h.take _
def rtrimInv (m : List Nat) : St := lay 25 [(3, rowW m)] []
theorem rtrim_round (hG : Steady G) {m : List Nat} (hb : m.length < 2 ^ 60) (h : m ≠ []) (hz : m.getD (m.length - 1) 0 = 0) :
    Goes Tryz.prog G 0 (loopOf Tryz.f225 0) (rtrimInv m) .normal (rtrimInv m.dropLast) := by
  have hp : 0 < m.length := List.length_pos_iff.2 h
  have e : D.row ((Int.ofNat (m.length - 1)).toNat - (0:Int).toNat) (false && false) (((m.map u32).drop ((0:Int).toNat * 1)).take (((Int.ofNat (m.length - 1)).toNat - (0:Int).toNat) * 1)) = rowW m.dropLast := by
    simp only [Int.ofNat_eq_natCast, Int.toNat_natCast, Int.toNat_zero, Nat.mul_one, Nat.sub_zero, List.drop_zero, Bool.false_and]
    rw [← List.map_take, ← List.dropLast_eq_take]
    unfold rowW
    rw [List.length_dropLast]
  exact Goes.of_run hG (ro := []) (m := 30) (lay_len ..)
    [.eq 9 (eqB (x := decide (Int.ofNat m.length > 0)) (y := true) (by simp; omega)), .eq 14 (eqS (nat_pred (i := m.length) (by omega) hp)), .prop (at_need (l := m) (i := m.length - 1) (by omega)), .prop (load_need (l := m) (i := m.length - 1) (by omega)),
     .eq 16 (headD_need (l := m) (i := m.length - 1) (by omega)), .eq 17 (eqB (x := Int.ofNat (m.getD (m.length - 1) 0) == 0) (y := true) (by rw [hz]; rfl)), .eq 22 (eqS (nat_pred (i := m.length) (by omega) hp)),
     .prop (p := (0:Int) ≤ 0 ∧ 0 ≤ Int.ofNat (m.length - 1) ∧ Int.ofNat (m.length - 1) ≤ (m.length : Int)) (by simp only [Int.ofNat_eq_natCast]; omega), .eq 23 e] (by kernel_rfl)
theorem rtrim_last (hG : Steady G) {m : List Nat} (hb : m.length < 2 ^ 60) (hd : Dig m) (hz : m ≠ [] → m.getD (m.length - 1) 0 ≠ 0) :
    Goes Tryz.prog G 0 (loopOf Tryz.f225 0) (rtrimInv m) (.exit 0) (rtrimInv (words (val m))) := by
  rw [words_canon hd hz]
  by_cases h : m = []
  · subst h
    exact Goes.of_run hG (ro := []) (m := 30) (lay_len ..) [] (by kernel_rfl)
  · have hp : 0 < m.length := List.length_pos_iff.2 h
    have hz' : (Int.ofNat (m.getD (m.length - 1) 0) == 0) = false := by rw [beq_eq_false_iff_ne]; have := hz h; simp only [Int.ofNat_eq_natCast]; omega
    exact Goes.of_run hG (ro := []) (m := 30) (lay_len ..)
      [.eq 9 (eqB (x := decide (Int.ofNat m.length > 0)) (y := true) (by simp; omega)), .eq 14 (eqS (nat_pred (i := m.length) (by omega) hp)), .prop (at_need (l := m) (i := m.length - 1) (by omega)), .prop (load_need (l := m) (i := m.length - 1) (by omega)),
       .eq 16 (headD_need (l := m) (i := m.length - 1) (by omega)), .eq 17 (eqB hz')] (by kernel_rfl)
theorem rtrim_loop (hG : Steady G) {l : List Nat} (hd : Dig l) (hb : l.length < 2 ^ 60) :
    Abs Tryz.prog G 25 0 (.loop (loopOf Tryz.f225 0)) (lay 25 [(3, rowW l)] []) (.exit 0) (rtrimInv (words (val l))) := by
  refine Abs.rounds (fun m : List Nat => Dig m ∧ val m = val l ∧ m.length < 2 ^ 60) rtrimInv (fun m => m.length) (fun m => lay_len _ _ _) (by simp) (fun m hm => ?_) l ⟨hd, rfl, hb⟩
  obtain ⟨h1, h2, h3⟩ := hm
  by_cases hc : m ≠ [] ∧ m.getD (m.length - 1) 0 = 0
  · left
    have hp : 0 < m.length := List.length_pos_iff.2 hc.1
    exact ⟨m.dropLast, ⟨dig_dropLast h1, by rw [val_dropLast hc.1 hc.2, h2], by rw [List.length_dropLast]; omega⟩, by rw [List.length_dropLast]; omega, rtrim_round hG h3 hc.1 hc.2⟩
  · right
    rw [← h2]
    exact rtrim_last hG h3 h1 (fun hn hz => hc ⟨hn, hz⟩)
theorem rtrim_spec (hG : Steady G) {l : List Nat} (hd : Dig l) (hb : l.length ≤ 2 ^ 40) : Spec Tryz.prog G 225 [rowW l] (rowW (words (val l))) := by
  have h40 : (2:Nat) ^ 40 = 1099511627776 := by decide
  exact Spec.of_run hG Tryz.func225 (ro := [6]) (m := 30)
    [.prop (p := ([] : List D).length = 0 * 1 ∧ (l.map u32).length = l.length * 1 ∧ 0 + l.length ≤ 2 ^ 62 ∧ (0 + l.length) * 4 ≤ 2 ^ 47) (by simp; omega),
     .eq 6 (d := .row (0 + l.length) false ([] ++ l.map u32)) (d' := rowW l) (by simp [rowW]), .code (rtrim_loop hG hd (by omega))] (by kernel_rfl)

/-! ### Valid mag neg form -/
theorem rvalid_spec (hG : Steady G) {s : Bool} {n : Nat} (hs : s = true → 0 < n) (hn : (words n).length ≤ 2 ^ 36) : Spec Tryz.prog G 231 [wv s n] (bool true) := by
  have h36 : (2:Nat) ^ 36 = 68719476736 := by decide
  rcases Nat.eq_zero_or_pos n with h | h
  · subst h
    cases s with
    | true => have := hs rfl; omega
    | false => exact Spec.of_run hG Tryz.func231 (ro := [1]) (m := 30) [] (by kernel_rfl)
  · have hp := words_len_pos (n := n) (by omega)
    have hz := words_last (n := n) (by omega)
    exact Spec.of_run hG Tryz.func231 (ro := [1]) (m := 30)
      [.eq 6 (eqB (words_ne h)), .eq 15 (eqS (nat_pred (i := (words n).length) (by omega) hp)), .prop (at_need (l := words n) (i := (words n).length - 1) (by omega)), .prop (load_need (l := words n) (i := (words n).length - 1) (by omega)),
       .eq 17 (headD_need (l := words n) (i := (words n).length - 1) (by omega)), .eq 18 (eqB (x := (Int.ofNat ((words n).getD ((words n).length - 1) 0) != 0)) (y := true) (by rw [bne_iff_ne]; simp only [Int.ofNat_eq_natCast]; omega))] (by kernel_rfl)
theorem rmag_spec (hG : Steady G) {s : Bool} {n : Nat} (hs : s = true → 0 < n) (hn : (words n).length ≤ 2 ^ 36) : Spec Tryz.prog G 168 [wv s n] (rowW (words n)) :=
  Spec.of_run hG Tryz.func168 (ro := [1]) (m := 30) [.call (rvalid_spec hG hs hn)] (by kernel_rfl)
theorem rneg_spec (hG : Steady G) {s : Bool} {n : Nat} (hs : s = true → 0 < n) (hn : (words n).length ≤ 2 ^ 36) : Spec Tryz.prog G 170 [wv s n] (bool s) :=
  Spec.of_run hG Tryz.func170 (ro := [1]) (m := 30) [.call (rvalid_spec hG hs hn)] (by kernel_rfl)
theorem rform_any (hG : Steady G) (s : Bool) {l : List Nat} (hl : Dig l) (hn : l.length ≤ 2 ^ 40) : Spec Tryz.prog G 166 [bool s, rowW l] (wv (s && decide (0 < val l)) (val l)) := by
  rcases Nat.eq_zero_or_pos (val l) with h | h
  · have ht := rtrim_spec (G := G) hG hl hn
    rw [h] at ht ⊢
    have e : (s && decide (0 < 0)) = false := by simp
    rw [e]
    exact Spec.of_run hG Tryz.func166 (ro := []) (m := 30) [.call ht, .eq 9 (eqB (x := (Int.ofNat (words 0).length == 0)) (y := true) rfl)] (by kernel_rfl)
  · have e : (s && decide (0 < val l)) = s := by rw [decide_eq_true h, Bool.and_true]
    rw [e]
    exact Spec.of_run hG Tryz.func166 (ro := []) (m := 30) [.call (rtrim_spec hG hl hn), .eq 9 (eqB (words_ne h))] (by kernel_rfl)
theorem rform_spec (hG : Steady G) (s : Bool) {n : Nat} (hn : (words n).length ≤ 2 ^ 36) : Spec Tryz.prog G 166 [bool s, rowW (words n)] (wv (s && decide (0 < n)) n) := by
  have h36 : (2:Nat) ^ 36 = 68719476736 := by decide
  have h40 : (2:Nat) ^ 40 = 1099511627776 := by decide
  have := rform_any (G := G) hG s (dig_words n) (by omega)
  rwa [val_words] at this

/-! ### plus -/
theorem digs_snoc (N n : Nat) : digs (N + 1) n = digs N n ++ [n / BP N % 4294967296] := by simp [digs, List.range_succ]
theorem digs_map_snoc (N n : Nat) : (digs N n).map u32 ++ [u32 (n / BP N % 4294967296)] = (digs (N + 1) n).map u32 := by rw [digs_snoc]; simp
theorem grow_new {n : Nat} {cs : List D} (h : cs.length = n) (hn : n < 2 ^ 40) {x : D} : 0 < 1 ∧ cs.length = n * 1 ∧ [x].length = 1 * 1 ∧ n + 1 ≤ 2 ^ 62 ∧ (n + 1) * 4 ≤ 2 ^ 47 := by
  have h40 : (2:Nat) ^ 40 = 1099511627776 := by decide
  have h62 : (2:Nat) ^ 62 = 4611686018427387904 := by decide
  have h47 : (2:Nat) ^ 47 = 140737488355328 := by decide
  exact ⟨by omega, by omega, rfl, by omega, by omega⟩
theorem grow_need {n : Nat} {cs : List D} (h : cs.length = n) (hn : n < 2 ^ 40) {x : D} (hx : x.cellOk = true := by rfl) : [x].all D.cellOk = true ∧ 0 < 1 ∧ cs.length = n * 1 ∧ [x].length = 1 * 1 ∧ n + 1 ≤ 2 ^ 62 ∧ (n + 1) * 4 ≤ 2 ^ 47 := by
  have h40 : (2:Nat) ^ 40 = 1099511627776 := by decide
  have h62 : (2:Nat) ^ 62 = 4611686018427387904 := by decide
  have h47 : (2:Nat) ^ 47 = 140737488355328 := by decide
  exact ⟨by simp [hx], by omega, by omega, rfl, by omega, by omega⟩
def rplusInv (l m : List Nat) : Nat → St
  | 0 => lay 37 [(0, rowW l), (1, rowW m), (5, .row 0 true []), (6, u64 0), (14, nat (plusN l m)), (15, nat 0)] []
  | i + 1 => lay 37 [(0, rowW l), (1, rowW m), (5, .gsl 0 (i + 1) 1), (6, u64 (cAdd (val l) (val m) (i + 1))), (14, nat (plusN l m)), (15, nat (i + 1))] [(0, (digs (i + 1) (val l + val m)).map u32)]
theorem rplus_round (hG : Steady G) {l m : List Nat} (hl : Dig l) (hm : Dig m) {i : Nat} (hi : i < plusN l m) (hb : plusN l m < 2 ^ 40) :
    Goes Tryz.prog G 0 (loopOf Tryz.f230 0) (rplusInv l m i) .normal (rplusInv l m (i + 1)) := by
  have h40 : (2:Nat) ^ 40 = 1099511627776 := by decide
  have h60 : (2:Nat) ^ 60 = 1152921504606846976 := by decide
  have hs := cAdd_step (val l) (val m) i
  have hd := cAdd_dig (val l) (val m) i
  rw [← getD_val hl, ← getD_val hm] at hs hd
  have h1 := hl.getD i
  have h2 := hm.getD i
  have h3 := cAdd_le (val l) (val m) i
  cases i with
  | zero =>
    rw [cAdd_zero] at hs hd
    have e : rplusInv l m (0 + 1) = lay 37 [(0, rowW l), (1, rowW m), (5, .gsl 0 (0 + 1) 1), (6, u64 (cAdd (val l) (val m) (0 + 1))), (14, nat (plusN l m)), (15, nat (0 + 1))] [(0, [] ++ [u32 ((val l + val m) / BP 0 % 4294967296)])] := by
      show lay 37 _ _ = _
      rw [← digs_map_snoc]; rfl
    rw [e]; clear e
    exact Goes.of_run hG (ro := []) (m := 30) (lay_len ..)
      [.eq 16 (eqB (lt_true hi)), .call (at_spec hG l hl 0), .call (at_spec hG m hm 0),
       .eq 24 (eq64 (x := IntKind.wrap .u64 (Int.ofNat (l.getD 0 0) + Int.ofNat (m.getD 0 0))) (y := Int.ofNat (l.getD 0 0 + m.getD 0 0)) (wrap64 (n := l.getD 0 0 + m.getD 0 0) (by omega))),
       .eq 26 (eq64 (x := IntKind.wrap .u64 (Int.ofNat (l.getD 0 0 + m.getD 0 0) + Int.ofNat 0)) (y := Int.ofNat (0 + (l.getD 0 0 + m.getD 0 0))) (by rw [Nat.zero_add]; exact wrap64 (n := l.getD 0 0 + m.getD 0 0) (by omega))),
       .eq 29 (eq32 (x := IntKind.wrap .u32 (Int.ofNat (0 + (l.getD 0 0 + m.getD 0 0)))) (y := Int.ofNat ((val l + val m) / BP 0 % 4294967296)) (by rw [← hd]; exact wrap32)),
       .prop (grow_new (n := 0) (cs := []) (x := u32 ((val l + val m) / BP 0 % 4294967296)) rfl (by omega)),
       .eq 33 (eq64 (x := (Int.ofNat (0 + (l.getD 0 0 + m.getD 0 0))).fdiv (2 ^ min (Int.toNat 32) (IntKind.bits .u64))) (y := Int.ofNat (cAdd (val l) (val m) (0 + 1))) (by rw [shr32, ← hs])),
       .eq 34 (eqS (nat_succ (i := 0) (by omega)))] (by kernel_rfl)
  | succ i =>
    have e : rplusInv l m (i + 1 + 1) = lay 37 [(0, rowW l), (1, rowW m), (5, .gsl 0 (i + 1 + 1) 1), (6, u64 (cAdd (val l) (val m) (i + 1 + 1))), (14, nat (plusN l m)), (15, nat (i + 1 + 1))] [(0, (digs (i + 1) (val l + val m)).map u32 ++ [u32 ((val l + val m) / BP (i + 1) % 4294967296)])] := by
      show lay 37 _ _ = _
      rw [digs_map_snoc]
    rw [e]; clear e
    exact Goes.of_run hG (ro := []) (m := 30) (lay_len ..)
      [.eq 16 (eqB (lt_true hi)), .call (at_spec hG l hl (i + 1)), .call (at_spec hG m hm (i + 1)),
       .eq 24 (eq64 (x := IntKind.wrap .u64 (Int.ofNat (l.getD (i + 1) 0) + Int.ofNat (m.getD (i + 1) 0))) (y := Int.ofNat (l.getD (i + 1) 0 + m.getD (i + 1) 0)) (wrap64 (n := l.getD (i + 1) 0 + m.getD (i + 1) 0) (by omega))),
       .eq 26 (eq64 (x := IntKind.wrap .u64 (Int.ofNat (l.getD (i + 1) 0 + m.getD (i + 1) 0) + Int.ofNat (cAdd (val l) (val m) (i + 1)))) (y := Int.ofNat (cAdd (val l) (val m) (i + 1) + (l.getD (i + 1) 0 + m.getD (i + 1) 0)))
         (by rw [Nat.add_comm (cAdd (val l) (val m) (i + 1))]; exact wrap64 (n := l.getD (i + 1) 0 + m.getD (i + 1) 0 + cAdd (val l) (val m) (i + 1)) (by omega))),
       .eq 29 (eq32 (x := IntKind.wrap .u32 (Int.ofNat (cAdd (val l) (val m) (i + 1) + (l.getD (i + 1) 0 + m.getD (i + 1) 0)))) (y := Int.ofNat ((val l + val m) / BP (i + 1) % 4294967296)) (by rw [← hd]; exact wrap32)),
       .prop (grow_need (n := i + 1) (cs := (digs (i + 1) (val l + val m)).map u32) (x := u32 ((val l + val m) / BP (i + 1) % 4294967296)) (by rw [List.length_map, digs_len]) (by omega)),
       .eq 33 (eq64 (x := (Int.ofNat (cAdd (val l) (val m) (i + 1) + (l.getD (i + 1) 0 + m.getD (i + 1) 0))).fdiv (2 ^ min (Int.toNat 32) (IntKind.bits .u64))) (y := Int.ofNat (cAdd (val l) (val m) (i + 1 + 1))) (by rw [shr32, ← hs])),
       .eq 34 (eqS (nat_succ (i := i + 1) (by omega)))] (by kernel_rfl)
theorem rplus_last (hG : Steady G) {l m : List Nat} : Goes Tryz.prog G 0 (loopOf Tryz.f230 0) (rplusInv l m (max l.length m.length + 1)) (.exit 0) (rplusInv l m (max l.length m.length + 1)) :=
  Goes.of_run hG (ro := []) (m := 30) (lay_len ..) [.eq 16 (eqB (lt_false (Nat.le_refl (plusN l m))))] (by kernel_rfl)
theorem rplus_loop (hG : Steady G) {l m : List Nat} (hl : Dig l) (hm : Dig m) (hb : plusN l m < 2 ^ 40) :
    Abs Tryz.prog G 37 0 (.loop (loopOf Tryz.f230 0)) (lay 37 [(0, rowW l), (1, rowW m), (5, .row 0 true []), (6, u64 0), (14, nat (plusN l m)), (15, nat 0)] []) (.exit 0)
      (rplusInv l m (max l.length m.length + 1)) :=
  Abs.count (rplusInv l m) (plusN l m) (fun i => by cases i <;> exact lay_len _ _ _) (by simp) (fun i hi => rplus_round hG hl hm hi hb) (rplus_last hG)
theorem rplus_spec (hG : Steady G) {l m : List Nat} (hl : Dig l) (hm : Dig m) (h1 : l.length ≤ 2 ^ 36) (h2 : m.length ≤ 2 ^ 36) :
    Spec Tryz.prog G 230 [rowW l, rowW m] (rowW (words (val l + val m))) := by
  have h36 : (2:Nat) ^ 36 = 68719476736 := by decide
  have h40 : (2:Nat) ^ 40 = 1099511627776 := by decide
  have hN : plusN l m < 2 ^ 40 := by unfold plusN; omega
  have hfit := plus_fits hl hm
  have ht := rtrim_spec (G := G) hG (l := digs (plusN l m) (val l + val m)) (digs_dig _ _) (by rw [digs_len]; omega)
  rw [words_digs hfit] at ht
  refine Spec.of_run hG Tryz.func230 (ro := []) (m := 30) (args := [rowW l, rowW m])
    [.eq 13 (eqS (max_len l m)), .eq 14 (eqS (nat_succ (i := max l.length m.length) (by omega))), .code (rplus_loop hG hl hm hN), .freeze 0,
     .eq 35 (d := D.row (max l.length m.length + 1) false (((digs (max l.length m.length + 1) (val l + val m)).map u32).take ((max l.length m.length + 1) * 1))) (d' := rowW (digs (plusN l m) (val l + val m))) ?_, .call ht] (by kernel_rfl)
  unfold rowW plusN
  rw [List.take_of_length_le (by simp [digs_len]), digs_len]
end Lw

namespace Lw
open Go Go.RowKit Go.Proofs

variable {G : World → Prop}

/-! ### minus -/
theorem wrap_less {x y : Nat} (h : y ≤ x) (hx : x < 18446744073709551616) : IntKind.wrap .u64 (Int.ofNat x - Int.ofNat y) = Int.ofNat (x - y) := by
  rw [wrap64i]; simp only [Int.ofNat_eq_natCast]; omega
/-- The word before the borrow is taken from it. -/
def brw (x y c : Nat) : Nat := 4294967296 + x - y - c
theorem brw_dig {a b i : Nat} (h : b ≤ a) : brw (a / BP i % 4294967296) (b / BP i % 4294967296) (cSub a b i) % 4294967296 = (a - b) / BP i % 4294967296 := by
  have h1 := cSub_dig h i
  have h2 : a / BP i % 4294967296 < 4294967296 := Nat.mod_lt _ (by omega)
  have h3 : b / BP i % 4294967296 < 4294967296 := Nat.mod_lt _ (by omega)
  have h4 := cSub_le a b i
  have h5 : (a - b) / BP i % 4294967296 < 4294967296 := Nat.mod_lt _ (by omega)
  unfold brw
  generalize a / BP i % 4294967296 = x at *
  generalize b / BP i % 4294967296 = y at *
  generalize (a - b) / BP i % 4294967296 = z at *
  generalize cSub a b i = c at *
  omega
theorem brw_next {a b i : Nat} : 1 - brw (a / BP i % 4294967296) (b / BP i % 4294967296) (cSub a b i) / 4294967296 = cSub a b (i + 1) := by
  rw [cSub_step]
  have h2 : a / BP i % 4294967296 < 4294967296 := Nat.mod_lt _ (by omega)
  have h3 : b / BP i % 4294967296 < 4294967296 := Nat.mod_lt _ (by omega)
  have h4 := cSub_le a b i
  unfold brw
  generalize a / BP i % 4294967296 = x at *
  generalize b / BP i % 4294967296 = y at *
  generalize cSub a b i = c at *
  split <;> omega
theorem add32 {x : Nat} (h : x < 4294967296) : IntKind.wrap .u64 (4294967296 + Int.ofNat x) = Int.ofNat (4294967296 + x) := by
  rw [wrap64i]; simp only [Int.ofNat_eq_natCast]; omega
theorem one_less {q : Nat} (h : q ≤ 1) : IntKind.wrap .u64 (1 - Int.ofNat q) = Int.ofNat (1 - q) := by
  rw [wrap64i]; simp only [Int.ofNat_eq_natCast]; omega
theorem brw_one {x y c : Nat} (h : x < 4294967296) : brw x y c / 4294967296 ≤ 1 := by unfold brw; omega
def rminusInv (l m : List Nat) : Nat → St
  | 0 => lay 35 [(0, rowW l), (1, rowW m), (5, .row 0 true []), (6, u64 0), (10, nat l.length), (11, nat 0)] []
  | i + 1 => lay 35 [(0, rowW l), (1, rowW m), (5, .gsl 0 (i + 1) 1), (6, u64 (cSub (val l) (val m) (i + 1))), (10, nat l.length), (11, nat (i + 1))] [(0, (digs (i + 1) (val l - val m)).map u32)]
theorem rminus_round (hG : Steady G) {l m : List Nat} (hl : Dig l) (hm : Dig m) (hle : val m ≤ val l) {i : Nat} (hi : i < l.length) (hb : l.length < 2 ^ 40) :
    Goes Tryz.prog G 0 (loopOf Tryz.f290 0) (rminusInv l m i) .normal (rminusInv l m (i + 1)) := by
  have h40 : (2:Nat) ^ 40 = 1099511627776 := by decide
  have h60 : (2:Nat) ^ 60 = 1152921504606846976 := by decide
  have hd := brw_dig (i := i) hle
  have hn := brw_next (a := val l) (b := val m) (i := i)
  rw [← getD_val hl, ← getD_val hm] at hd hn
  have h1 := hl.getD i
  have h2 := hm.getD i
  have h3 := cSub_le (val l) (val m) i
  have hq := brw_one (x := l.getD i 0) (y := m.getD i 0) (c := cSub (val l) (val m) i) h1
  have e32 : IntKind.wrap .u32 (Int.ofNat (brw (l.getD i 0) (m.getD i 0) (cSub (val l) (val m) i))) = Int.ofNat ((val l - val m) / BP i % 4294967296) := by rw [conv32, hd]
  have eb : IntKind.wrap .u64 (1 - Int.ofNat (brw (l.getD i 0) (m.getD i 0) (cSub (val l) (val m) i) / 4294967296)) = Int.ofNat (cSub (val l) (val m) (i + 1)) := by rw [one_less hq, hn]
  have e23 : IntKind.wrap .u64 (Int.ofNat (4294967296 + l.getD i 0 - m.getD i 0) - Int.ofNat (cSub (val l) (val m) i)) = Int.ofNat (brw (l.getD i 0) (m.getD i 0) (cSub (val l) (val m) i)) := wrap_less (by omega) (by omega)
  have e21 : IntKind.wrap .u64 (Int.ofNat (4294967296 + l.getD i 0) - Int.ofNat (m.getD i 0)) = Int.ofNat (4294967296 + l.getD i 0 - m.getD i 0) := wrap_less (by omega) (by omega)
  cases i with
  | zero =>
    rw [cSub_zero] at e32 eb e23
    have e : rminusInv l m (0 + 1) = lay 35 [(0, rowW l), (1, rowW m), (5, .gsl 0 (0 + 1) 1), (6, u64 (cSub (val l) (val m) (0 + 1))), (10, nat l.length), (11, nat (0 + 1))] [(0, [] ++ [u32 ((val l - val m) / BP 0 % 4294967296)])] := by
      show lay 35 _ _ = _
      rw [← digs_map_snoc]; rfl
    rw [e]; clear e
    exact Goes.of_run hG (ro := []) (m := 30) (lay_len ..)
      [.eq 12 (eqB (lt_true hi)), .call (at_spec hG l hl 0), .eq 17 (eq64 (add32 h1)), .call (at_spec hG m hm 0), .eq 21 (eq64 e21), .eq 23 (eq64 e23), .eq 26 (eq32 e32),
       .prop (grow_new (n := 0) (cs := []) (x := u32 ((val l - val m) / BP 0 % 4294967296)) rfl (by omega)), .eq 30 (eq64 (shr32 (brw (l.getD 0 0) (m.getD 0 0) 0))), .eq 31 (eq64 eb), .eq 32 (eqS (nat_succ (i := 0) (by omega)))] (by kernel_rfl)
  | succ i =>
    have e : rminusInv l m (i + 1 + 1) = lay 35 [(0, rowW l), (1, rowW m), (5, .gsl 0 (i + 1 + 1) 1), (6, u64 (cSub (val l) (val m) (i + 1 + 1))), (10, nat l.length), (11, nat (i + 1 + 1))] [(0, (digs (i + 1) (val l - val m)).map u32 ++ [u32 ((val l - val m) / BP (i + 1) % 4294967296)])] := by
      show lay 35 _ _ = _
      rw [digs_map_snoc]
    rw [e]; clear e
    exact Goes.of_run hG (ro := []) (m := 30) (lay_len ..)
      [.eq 12 (eqB (lt_true hi)), .call (at_spec hG l hl (i + 1)), .eq 17 (eq64 (add32 h1)), .call (at_spec hG m hm (i + 1)), .eq 21 (eq64 e21), .eq 23 (eq64 e23), .eq 26 (eq32 e32),
       .prop (grow_need (n := i + 1) (cs := (digs (i + 1) (val l - val m)).map u32) (x := u32 ((val l - val m) / BP (i + 1) % 4294967296)) (by rw [List.length_map, digs_len]) (by omega)),
       .eq 30 (eq64 (shr32 (brw (l.getD (i + 1) 0) (m.getD (i + 1) 0) (cSub (val l) (val m) (i + 1))))), .eq 31 (eq64 eb), .eq 32 (eqS (nat_succ (i := i + 1) (by omega)))] (by kernel_rfl)
theorem rminus_last (hG : Steady G) {l m : List Nat} {k : Nat} (hk : l.length = k + 1) : Goes Tryz.prog G 0 (loopOf Tryz.f290 0) (rminusInv l m (k + 1)) (.exit 0) (rminusInv l m (k + 1)) :=
  Goes.of_run hG (ro := []) (m := 30) (lay_len ..) [.eq 12 (eqB (lt_false (i := k + 1) (N := l.length) (by omega)))] (by kernel_rfl)
theorem rminus_loop (hG : Steady G) {l m : List Nat} (hl : Dig l) (hm : Dig m) (hle : val m ≤ val l) (hb : l.length < 2 ^ 40) {k : Nat} (hk : l.length = k + 1) :
    Abs Tryz.prog G 35 0 (.loop (loopOf Tryz.f290 0)) (lay 35 [(0, rowW l), (1, rowW m), (5, .row 0 true []), (6, u64 0), (10, nat l.length), (11, nat 0)] []) (.exit 0)
      (rminusInv l m (k + 1)) :=
  Abs.count (rminusInv l m) (k + 1) (fun i => by cases i <;> exact lay_len _ _ _) (by simp) (fun i hi => rminus_round hG hl hm hle (by omega) hb) (rminus_last hG hk)
theorem rminus_spec (hG : Steady G) {l m : List Nat} (hl : Dig l) (hm : Dig m) (hle : val m ≤ val l) (h1 : l.length ≤ 2 ^ 36) :
    Spec Tryz.prog G 290 [rowW l, rowW m] (rowW (words (val l - val m))) := by
  have h36 : (2:Nat) ^ 36 = 68719476736 := by decide
  have h40 : (2:Nat) ^ 40 = 1099511627776 := by decide
  have hfit : val l - val m < BP l.length := Nat.lt_of_le_of_lt (Nat.sub_le _ _) (val_lt hl)
  have ht := rtrim_spec (G := G) hG (l := digs l.length (val l - val m)) (digs_dig _ _) (by rw [digs_len]; omega)
  rw [words_digs hfit] at ht
  cases hk : l.length with
  | zero =>
    have : l = [] := List.eq_nil_of_length_eq_zero hk
    subst this
    have ht : Spec Tryz.prog G 225 [rowW []] (rowW (words (val [] - val m))) := ht
    exact Spec.of_run hG Tryz.func290 (ro := []) (m := 30) [.call ht] (by kernel_rfl)
  | succ k =>
    rw [hk] at ht
    refine Spec.of_run hG Tryz.func290 (ro := []) (m := 30) (args := [rowW l, rowW m])
      [.code (rminus_loop hG hl hm hle (by omega) hk), .freeze 0,
       .eq 33 (d := D.row (k + 1) false (((digs (k + 1) (val l - val m)).map u32).take ((k + 1) * 1))) (d' := rowW (digs (k + 1) (val l - val m))) ?_, .call ht] (by kernel_rfl)
    unfold rowW
    rw [List.take_of_length_le (by simp [digs_len]), digs_len]

/-! ### compare -/
def rcmpInv (l m : List Nat) (c : Nat) : St := lay 30 [(0, rowW l), (1, rowW m), (5, int (cnt c))] []
theorem rcmp_same (hG : Steady G) {l m : List Nat} (hl : Dig l) (hm : Dig m) {i : Nat} (hd : l.getD i 0 = m.getD i 0) (hi : i < 2 ^ 60) :
    Goes Tryz.prog G 0 (loopOf Tryz.f227 0) (rcmpInv l m (i + 1)) .normal (rcmpInv l m i) :=
  Goes.of_run hG (ro := []) (m := 30) (lay_len ..)
    [.eq 13 (eqB (x := decide (Int.ofNat i ≥ 0)) (y := true) (by simp)), .call (at_spec hG l hl i), .call (at_spec hG m hm i), .eq 22 (eqB (x := (Int.ofNat (l.getD i 0) != Int.ofNat (m.getD i 0))) (y := false) (by rw [hd]; simp)),
     .eq 15 (eqS (cnt_top hi))] (by kernel_rfl)
theorem rcmp_lt (hG : Steady G) {l m : List Nat} (hl : Dig l) (hm : Dig m) {i : Nat} (hd : l.getD i 0 < m.getD i 0) :
    Goes Tryz.prog G 0 (loopOf Tryz.f227 0) (rcmpInv l m (i + 1)) .ret (lay 30 [(4, int (-1))] []) :=
  Goes.of_run hG (ro := []) (m := 30) (lay_len ..)
    [.eq 13 (eqB (x := decide (Int.ofNat i ≥ 0)) (y := true) (by simp)), .call (at_spec hG l hl i), .call (at_spec hG m hm i), .eq 22 (eqB (x := (Int.ofNat (l.getD i 0) != Int.ofNat (m.getD i 0))) (y := true) (by rw [bne_iff_ne]; simp only [Int.ofNat_eq_natCast]; omega)),
     .call (at_spec hG l hl i), .call (at_spec hG m hm i), .eq 29 (eqB (x := decide (Int.ofNat (l.getD i 0) < Int.ofNat (m.getD i 0))) (y := true) (by simp only [Int.ofNat_eq_natCast, decide_eq_true_eq]; omega))] (by kernel_rfl)
theorem rcmp_gt (hG : Steady G) {l m : List Nat} (hl : Dig l) (hm : Dig m) {i : Nat} (hd : m.getD i 0 < l.getD i 0) :
    Goes Tryz.prog G 0 (loopOf Tryz.f227 0) (rcmpInv l m (i + 1)) .ret (lay 30 [(4, int 1)] []) :=
  Goes.of_run hG (ro := []) (m := 30) (lay_len ..)
    [.eq 13 (eqB (x := decide (Int.ofNat i ≥ 0)) (y := true) (by simp)), .call (at_spec hG l hl i), .call (at_spec hG m hm i), .eq 22 (eqB (x := (Int.ofNat (l.getD i 0) != Int.ofNat (m.getD i 0))) (y := true) (by rw [bne_iff_ne]; simp only [Int.ofNat_eq_natCast]; omega)),
     .call (at_spec hG l hl i), .call (at_spec hG m hm i), .eq 29 (eqB (x := decide (Int.ofNat (l.getD i 0) < Int.ofNat (m.getD i 0))) (y := false) (by simp only [Int.ofNat_eq_natCast, decide_eq_false_iff_not]; omega))] (by kernel_rfl)
theorem rcmp_end (hG : Steady G) {l m : List Nat} : Goes Tryz.prog G 0 (loopOf Tryz.f227 0) (rcmpInv l m 0) (.exit 0) (rcmpInv l m 0) :=
  Goes.of_run hG (ro := []) (m := 30) (lay_len ..) [] (by kernel_rfl)
theorem rcmp_loop_eq (hG : Steady G) {l m : List Nat} (hl : Dig l) (hm : Dig m) (he : val l = val m) {N : Nat} (hN : N < 2 ^ 60) :
    Abs Tryz.prog G 30 0 (.loop (loopOf Tryz.f227 0)) (lay 30 [(0, rowW l), (1, rowW m), (5, int (cnt N))] []) (.exit 0) (rcmpInv l m 0) :=
  Abs.down (rcmpInv l m) N (fun i => lay_len _ _ _) (by simp) (fun i hi => rcmp_same hG hl hm (by rw [getD_val hl, getD_val hm, he]) (by omega)) (rcmp_end hG)
theorem rcmp_loop_ne (hG : Steady G) {l m : List Nat} (hl : Dig l) (hm : Dig m) (hne : val l ≠ val m) {N : Nat} (hN : N < 2 ^ 60) (hh : val l / BP N = val m / BP N) :
    Abs Tryz.prog G 30 0 (.loop (loopOf Tryz.f227 0)) (lay 30 [(0, rowW l), (1, rowW m), (5, int (cnt N))] []) .ret (lay 30 [(4, int (cmpI (val l) (val m)))] []) := by
  refine Abs.rounds (fun c : Nat => c < 2 ^ 60 ∧ val l / BP c = val m / BP c) (rcmpInv l m) (fun c => c) (fun m => lay_len _ _ _) (by simp) (fun c hc => ?_) N ⟨hN, hh⟩
  obtain ⟨h1, h2⟩ := hc
  cases c with
  | zero => rw [BP_zero, Nat.div_one, Nat.div_one] at h2; exact absurd h2 hne
  | succ i =>
    obtain ⟨d1, d2⟩ := cmp_digit h2
    obtain ⟨-, d3⟩ := cmp_digit h2.symm
    have hi : i < 2 ^ 60 := by omega
    rcases Nat.lt_trichotomy (l.getD i 0) (m.getD i 0) with h | h | h
    · right
      have hlt := d2 (by rw [← getD_val hl, ← getD_val hm]; exact h)
      have e : cmpI (val l) (val m) = -1 := by unfold cmpI; rw [if_pos hlt]
      rw [e]
      exact rcmp_lt hG hl hm h
    · left
      exact ⟨i, ⟨hi, d1 (by rw [← getD_val hl, ← getD_val hm]; exact h)⟩, by omega, rcmp_same hG hl hm h hi⟩
    · right
      have hlt := d3 (by rw [← getD_val hl, ← getD_val hm]; exact h)
      have e : cmpI (val l) (val m) = 1 := by unfold cmpI; rw [if_neg (by omega), if_pos hlt]
      rw [e]
      exact rcmp_gt hG hl hm h
theorem cmpI_self (a : Nat) : cmpI a a = 0 := by unfold cmpI; rw [if_neg (by omega), if_neg (by omega)]
theorem rcompare_spec (hG : Steady G) {l m : List Nat} (hl : Dig l) (hm : Dig m) (h1 : l.length ≤ 2 ^ 40) (h2 : m.length ≤ 2 ^ 40) :
    Spec Tryz.prog G 227 [rowW l, rowW m] (int (cmpI (val l) (val m))) := by
  have h40 : (2:Nat) ^ 40 = 1099511627776 := by decide
  have h60 : (2:Nat) ^ 60 = 1152921504606846976 := by decide
  have hN : max l.length m.length < 2 ^ 60 := by omega
  by_cases he : val l = val m
  · rw [he, cmpI_self]
    exact Spec.of_run hG Tryz.func227 (ro := []) (m := 30)
      [.eq 10 (eqS (max_len l m)), .eq 11 (eqS (cnt_top hN)), .code (rcmp_loop_eq hG hl hm he hN)] (by kernel_rfl)
  · have hh : val l / BP (max l.length m.length) = val m / BP (max l.length m.length) := by
      have a := val_lt hl
      have b := val_lt hm
      have h3 : BP l.length ≤ BP (max l.length m.length) := BP_mono (Nat.le_max_left _ _)
      have h4 : BP m.length ≤ BP (max l.length m.length) := BP_mono (Nat.le_max_right _ _)
      rw [Nat.div_eq_of_lt (by omega), Nat.div_eq_of_lt (by omega)]
    exact Spec.of_run hG Tryz.func227 (ro := []) (m := 30)
      [.eq 10 (eqS (max_len l m)), .eq 11 (eqS (cnt_top hN)), .code (rcmp_loop_ne hG hl hm he hN hh)] (by kernel_rfl)
end Lw

namespace Lw
open Go Go.RowKit Go.Proofs

variable {G : World → Prop}

/-! ### times -/
def rtimIn (l m : List Nat) (i k : Nat) : St :=
  lay 68 [(0, rowW l), (1, rowW m), (5, .slc 0 0 (timN l m) (timN l m)), (6, nat i), (7, u64 (timC l m i k)), (17, nat l.length), (18, nat i), (22, nat m.length), (23, nat k)]
    [(0, cel (timN l m) (timF l m i k))]
theorem rtim_inner (hG : Steady G) {l m : List Nat} (hl : Dig l) (hm : Dig m) {i k : Nat} (hi : i < l.length) (hk : k < m.length) (hb : timN l m < 2 ^ 60) :
    Goes Tryz.prog G 0 (loopOf Tryz.f327 1) (rtimIn l m i k) .normal (rtimIn l m i (k + 1)) := by
  have h60 : (2:Nat) ^ 60 = 1152921504606846976 := by decide
  have hN : i + k < timN l m := by unfold timN; omega
  have hx := hl.getD i
  have hy := hm.getD k
  have hs := cMul_step (timT l m i / BP i) (l.getD i 0) (val m) k
  have hd := cMul_dig (timT l m i / BP i) (l.getD i 0) (val m) k
  rw [← getD_val hm, ← timT_div] at hs hd
  rw [← timU_div] at hd
  have hc := cMul_lt (timT l m i / BP i) (val m) k hx
  have hxy := mul_lt64 hx hy
  have ht : timT l m i / BP (i + k) % 4294967296 < 4294967296 := Nat.mod_lt _ (by omega)
  have hF : timF l m i k (i + k) = timT l m i / BP (i + k) % 4294967296 := by unfold timF; rw [if_neg (by omega)]
  have e : rtimIn l m i (k + 1) = lay 68 [(0, rowW l), (1, rowW m), (5, .slc 0 0 (timN l m) (timN l m)), (6, nat i), (7, u64 (timC l m i (k + 1))), (17, nat l.length), (18, nat i), (22, nat m.length), (23, nat (k + 1))]
      [(0, splice (cel (timN l m) (timF l m i k)) (i + k) [u32 (timU l m i / BP (i + k) % 4294967296)])] := by
    rw [splice_cel _ _ hN]
    unfold rtimIn
    congr 3
    refine cel_congr fun j _ => ?_
    unfold timF
    by_cases hj : j = i + k
    · subst hj; rw [if_pos (by omega), if_pos rfl]
    · rw [if_neg hj]
      by_cases h2 : j < i + k
      · rw [if_pos h2, if_pos (by omega)]
      · rw [if_neg h2, if_neg (by omega)]
  rw [e]; clear e
  exact Goes.of_run hG (ro := []) (m := 30) (lay_len ..)
    [.eq 24 (eqB (lt_true hk)), .prop (at_need hi), .prop (load_need hi), .eq 29 (headD_need hi), .eq 30 (eq64 (conv64 hx)), .prop (at_need hk), .prop (load_need hk), .eq 34 (headD_need hk), .eq 35 (eq64 (conv64 hy)),
     .eq 36 (eq64 (wrap_mul (x := l.getD i 0) (y := m.getD k 0) (by omega))),
     .eq 40 (eqS (nat_add (i := i) (k := k) (by omega))), .prop (ix_need hN), .eq 41 (ptr_at 0 (i + k)), .prop (p := 0 < 1 ∧ i + k + 1 ≤ (cel (timN l m) (timF l m i k)).length) (by rw [cel_len]; omega),
     .eq 42 (d := ((cel (timN l m) (timF l m i k)).drop (i + k)).headD .any) (d' := u32 (timT l m i / BP (i + k) % 4294967296)) (by rw [cel_getD hN, hF]), .eq 43 (eq64 (conv64 ht)),
     .eq 44 (eq64 (wrap_add (x := l.getD i 0 * m.getD k 0) (y := timT l m i / BP (i + k) % 4294967296) (by omega))),
     .eq 46 (eq64 (x := IntKind.wrap .u64 (Int.ofNat (l.getD i 0 * m.getD k 0 + timT l m i / BP (i + k) % 4294967296) + Int.ofNat (timC l m i k))) (y := Int.ofNat (timC l m i k + (l.getD i 0 * m.getD k 0 + timT l m i / BP (i + k) % 4294967296)))
       (by rw [Nat.add_comm (timC l m i k)]; exact wrap_add (x := l.getD i 0 * m.getD k 0 + timT l m i / BP (i + k) % 4294967296) (y := timC l m i k) (by unfold timC; omega))),
     .eq 50 (eqS (nat_add (i := i) (k := k) (by omega))), .eq 52 (eq32 (x := IntKind.wrap .u32 (Int.ofNat (timC l m i k + (l.getD i 0 * m.getD k 0 + timT l m i / BP (i + k) % 4294967296)))) (y := Int.ofNat (timU l m i / BP (i + k) % 4294967296)) (by rw [conv32, ← hd]; rfl)),
     .eq 54 (eq64 (x := (Int.ofNat (timC l m i k + (l.getD i 0 * m.getD k 0 + timT l m i / BP (i + k) % 4294967296))).fdiv (2 ^ min (Int.toNat 32) (IntKind.bits .u64))) (y := Int.ofNat (timC l m i (k + 1))) (by rw [shr32]; unfold timC; rw [hs])),
     .prop (ix_need hN), .eq 55 (ptr_at 0 (i + k)), .prop (p := i + k + 1 ≤ (cel (timN l m) (timF l m i k)).length) (by rw [cel_len]; omega),
     .eq 56 (eqS (nat_succ (i := k) (by omega)))] (by kernel_rfl)
theorem rtim_inner_last (hG : Steady G) {l m : List Nat} {i : Nat} : Goes Tryz.prog G 0 (loopOf Tryz.f327 1) (rtimIn l m i m.length) (.exit 2) (rtimIn l m i m.length) :=
  Goes.of_run hG (ro := []) (m := 30) (lay_len ..) [.eq 24 (eqB (lt_false (Nat.le_refl m.length)))] (by kernel_rfl)
def rtimOut (l m : List Nat) (i : Nat) : St :=
  lay 68 [(0, rowW l), (1, rowW m), (5, .slc 0 0 (timN l m) (timN l m)), (17, nat l.length), (18, nat i)] [(0, cel (timN l m) (fun j => timT l m i / BP j % 4294967296))]
theorem rtim_inner_loop (hG : Steady G) {l m : List Nat} (hl : Dig l) (hm : Dig m) {i : Nat} (hi : i < l.length) (hb : timN l m < 2 ^ 60) :
    Abs Tryz.prog G 68 0 (.loop (loopOf Tryz.f327 1))
      (lay 68 [(0, rowW l), (1, rowW m), (5, .slc 0 0 (timN l m) (timN l m)), (6, nat i), (7, u64 0), (17, nat l.length), (18, nat i), (22, nat m.length), (23, nat 0)]
        [(0, cel (timN l m) (fun j => timT l m i / BP j % 4294967296))]) (.exit 2) (rtimIn l m i m.length) := by
  have h := Abs.count (rtimIn l m i) m.length (fun k => lay_len _ _ _) (by simp) (fun k hk => rtim_inner hG hl hm hi hk hb) (rtim_inner_last hG)
  have e : rtimIn l m i 0 = lay 68 [(0, rowW l), (1, rowW m), (5, .slc 0 0 (timN l m) (timN l m)), (6, nat i), (7, u64 0), (17, nat l.length), (18, nat i), (22, nat m.length), (23, nat 0)]
        [(0, cel (timN l m) (fun j => timT l m i / BP j % 4294967296))] := by
    unfold rtimIn timC
    rw [cMul_zero]
    congr 3
    refine cel_congr fun j _ => ?_
    unfold timF
    by_cases hj : j < i + 0
    · rw [if_pos hj]
      unfold timU
      have e1 : i = j + (i - j - 1) + 1 := by omega
      have e2 : timT l m i + l.getD i 0 * val m * BP i = timT l m i + (l.getD i 0 * val m * BP (i - j - 1) * 4294967296) * BP j := by
        conv => lhs; arg 2; rw [e1]
        rw [BP_succ, BP_add]
        simp only [Nat.mul_assoc, Nat.mul_comm, Nat.mul_left_comm]
        rw [← e1]
      rw [e2, Nat.add_mul_div_right _ _ (BP_pos j)]; omega
    · rw [if_neg hj]
  rw [e] at h; exact h
theorem rtim_outer (hG : Steady G) {l m : List Nat} (hl : Dig l) (hm : Dig m) {i : Nat} (hi : i < l.length) (hb : timN l m < 2 ^ 60) :
    Goes Tryz.prog G 0 (loopOf Tryz.f327 0) (rtimOut l m i) .normal (rtimOut l m (i + 1)) := by
  have h60 : (2:Nat) ^ 60 = 1152921504606846976 := by decide
  have hN : i + m.length < timN l m := by unfold timN; omega
  have hT := timT_lt (l := l) hm i (BP_pos _)
  have hx := hl.getD i
  have hC : timC l m i m.length = timU l m i / BP (i + m.length) := by
    unfold timC
    rw [timU_div]
    refine cMul_end ?_ (val_lt hm)
    rw [Nat.div_lt_iff_lt_mul (BP_pos i), ← BP_add, Nat.add_comm]; exact hT
  have hClt : timC l m i m.length < 4294967296 := by unfold timC; exact cMul_lt _ _ _ hx
  have e : rtimOut l m (i + 1) = lay 68 [(0, rowW l), (1, rowW m), (5, .slc 0 0 (timN l m) (timN l m)), (17, nat l.length), (18, nat (i + 1))]
      [(0, splice (cel (timN l m) (timF l m i m.length)) (i + m.length) [u32 (timC l m i m.length % 4294967296)])] := by
    rw [splice_cel _ _ hN]
    unfold rtimOut
    congr 3
    refine cel_congr fun j _ => ?_
    rw [← timU_eq hl]
    unfold timF
    by_cases hj : j = i + m.length
    · subst hj; rw [if_pos rfl, hC]
    · rw [if_neg hj]
      by_cases h2 : j < i + m.length
      · rw [if_pos h2]
      · rw [if_neg h2]
        have h3 : BP (i + m.length + 1) ≤ BP j := BP_mono (by omega)
        have h4 : timU l m i < BP (i + m.length + 1) := by
          have := hClt
          rw [hC, Nat.div_lt_iff_lt_mul (BP_pos _)] at this
          rw [BP_succ]; exact this
        have h5 : BP (i + m.length) ≤ BP j := BP_mono (by omega)
        rw [Nat.div_eq_of_lt (by omega), Nat.div_eq_of_lt (by omega)]
  rw [e]
  exact Goes.of_run hG (ro := []) (m := 30) (lay_len ..)
    [.eq 19 (eqB (lt_true hi)), .code (rtim_inner_loop hG hl hm hi hb),
     .eq 61 (eqS (nat_add (i := i) (k := m.length) (by omega))), .eq 63 (eq32 (conv32 (timC l m i m.length))), .prop (ix_need hN), .eq 64 (ptr_at 0 (i + m.length)),
     .prop (p := i + m.length + 1 ≤ (cel (timN l m) (timF l m i m.length)).length) (by rw [cel_len]; omega), .eq 65 (eqS (nat_succ (i := i) (by omega)))] (by kernel_rfl)
theorem rtim_outer_last (hG : Steady G) {l m : List Nat} : Goes Tryz.prog G 0 (loopOf Tryz.f327 0) (rtimOut l m l.length) (.exit 0) (rtimOut l m l.length) :=
  Goes.of_run hG (ro := []) (m := 30) (lay_len ..) [.eq 19 (eqB (lt_false (Nat.le_refl l.length)))] (by kernel_rfl)
theorem rtim_loop (hG : Steady G) {l m : List Nat} (hl : Dig l) (hm : Dig m) (hb : timN l m < 2 ^ 60) :
    Abs Tryz.prog G 68 0 (.loop (loopOf Tryz.f327 0))
      (lay 68 [(0, rowW l), (1, rowW m), (5, .slc 0 0 (timN l m) (timN l m)), (17, nat l.length), (18, nat 0)] [(0, List.replicate (timN l m) (u32 0))]) (.exit 0) (rtimOut l m l.length) := by
  have h := Abs.count (rtimOut l m) l.length (fun k => lay_len _ _ _) (by simp) (fun i hi => rtim_outer hG hl hm hi hb) (rtim_outer_last hG)
  have e : rtimOut l m 0 = lay 68 [(0, rowW l), (1, rowW m), (5, .slc 0 0 (timN l m) (timN l m)), (17, nat l.length), (18, nat 0)] [(0, List.replicate (timN l m) (u32 0))] := by
    rw [cel_zero]
    unfold rtimOut timT
    rw [BP_zero, Nat.mod_one, Nat.zero_mul]
    congr 3
    exact cel_congr fun j _ => by rw [Nat.zero_div]
  rw [e] at h; exact h
/-- A product of words. -/
theorem rtimes_spec (hG : Steady G) {l m : List Nat} (hl : Dig l) (hm : Dig m) (h1 : l.length ≤ 2 ^ 36) (h2 : m.length ≤ 2 ^ 36) :
    Spec Tryz.prog G 327 [rowW l, rowW m] (rowW (words (val l * val m))) := by
  have h36 : (2:Nat) ^ 36 = 68719476736 := by decide
  have h40 : (2:Nat) ^ 40 = 1099511627776 := by decide
  have h60 : (2:Nat) ^ 60 = 1152921504606846976 := by decide
  have hN : timN l m ≤ 2 ^ 40 := by unfold timN; omega
  have hT : timT l m l.length = val l * val m := by unfold timT; rw [Nat.mod_eq_of_lt (val_lt hl)]
  have hfit : val l * val m < BP (timN l m) := by rw [← hT]; exact timT_lt hm _ (BP_pos _)
  have ht := rtrim_spec (G := G) hG (l := digs (timN l m) (val l * val m)) (digs_dig _ _) (by rw [digs_len]; omega)
  rw [words_digs hfit] at ht
  refine Spec.of_run hG Tryz.func327 (ro := []) (m := 30) (args := [rowW l, rowW m])
    [.eq 14 (eqS (nat_add (i := l.length) (k := m.length) (by omega))), .prop (make_need hN), .code (rtim_loop hG hl hm (by omega)), .freeze 0,
     .eq 66 (d := D.row (timN l m) false (((cel (timN l m) (fun j => timT l m l.length / BP j % 4294967296)).drop 0).take (timN l m))) (d' := rowW (digs (timN l m) (val l * val m))) (by rw [hT]; exact cel_row _ _), .call ht] (by kernel_rfl)

/-! ### bits -/
def rbitsInv (b x : Nat) : St := lay 25 [(3, nat (b - bl x)), (4, u32 x)] []
theorem bl_half {x : Nat} (h : 0 < x) : bl x = bl (x / 2) + 1 := by
  rcases Nat.lt_or_ge x 2 with h2 | h2
  · have : x = 1 := by omega
    subst this; rfl
  · have := bl_shift (x := x) (k := 1) h2
    rwa [show 2 ^ 1 = 2 from rfl] at this
theorem bl_zero : bl 0 = 0 := rfl
theorem shr_one (x : Nat) : (Int.ofNat x).fdiv (2 ^ min (Int.toNat 1) (IntKind.bits .u32)) = Int.ofNat (x / 2) := shr_u32 (x := x) 1 (by omega)
theorem rbits_round (hG : Steady G) {b x : Nat} (hx : 0 < x) (hb : bl x ≤ b) (hb' : b < 2 ^ 59) :
    Goes Tryz.prog G 0 (loopOf Tryz.f336 0) (rbitsInv b x) .normal (rbitsInv b (x / 2)) := by
  have h59 : (2:Nat) ^ 59 = 576460752303423488 := by decide
  have e := bl_half hx
  have e2 : b - bl (x / 2) = b - bl x + 1 := by omega
  unfold rbitsInv
  rw [e2]
  exact Goes.of_run hG (ro := []) (m := 30) (lay_len ..)
    [.eq 19 (eqB (x := decide (Int.ofNat x > 0)) (y := true) (by simp only [Int.ofNat_eq_natCast, decide_eq_true_eq]; omega)), .eq 23 (eqS (nat_succ (i := b - bl x) (by omega))), .eq 21 (eq32 (shr_one x))] (by kernel_rfl)
theorem rbits_last (hG : Steady G) {b : Nat} : Goes Tryz.prog G 0 (loopOf Tryz.f336 0) (rbitsInv b 0) (.exit 0) (rbitsInv b 0) :=
  Goes.of_run hG (ro := []) (m := 30) (lay_len ..) [] (by kernel_rfl)
theorem rbits_loop (hG : Steady G) {b x : Nat} (hb : bl x ≤ b) (hb' : b < 2 ^ 59) :
    Abs Tryz.prog G 25 0 (.loop (loopOf Tryz.f336 0)) (lay 25 [(3, nat (b - bl x)), (4, u32 x)] []) (.exit 0) (rbitsInv b 0) := by
  refine Abs.rounds (fun x : Nat => bl x ≤ b) (fun x => rbitsInv b x) (fun x => x) (fun m => lay_len _ _ _) (by simp) (fun x hx => ?_) x hb
  rcases Nat.eq_zero_or_pos x with h | h
  · right; subst h; exact rbits_last hG
  · left
    have := bl_half h
    exact ⟨x / 2, by omega, by omega, rbits_round hG h hx hb'⟩
theorem rbits_spec (hG : Steady G) {m : Nat} (hm : (words m).length ≤ 2 ^ 36) : Spec Tryz.prog G 336 [rowW (words m)] (nat (bl m)) := by
  have h36 : (2:Nat) ^ 36 = 68719476736 := by decide
  have h59 : (2:Nat) ^ 59 = 576460752303423488 := by decide
  rcases Nat.eq_zero_or_pos m with h | h
  · subst h
    exact Spec.of_run hG Tryz.func336 (ro := []) (m := 30) [.eq 7 (eqB (x := (Int.ofNat (words 0).length == 0)) (y := true) rfl)] (by kernel_rfl)
  · have hp := words_len_pos (n := m) (by omega)
    have hlt := (dig_words m).getD ((words m).length - 1)
    have hb := bl_u32 hlt
    have e := bl_words h
    have hl := rbits_loop (G := G) hG (b := bl m) (x := (words m).getD ((words m).length - 1) 0) (by omega) (by omega)
    rw [show bl m - bl ((words m).getD ((words m).length - 1) 0) = 32 * ((words m).length - 1) by omega] at hl
    exact Spec.of_run hG Tryz.func336 (ro := []) (m := 30)
      [.eq 7 (eqB (words_ne h)), .eq 10 (eqS (nat_pred (i := (words m).length) (by omega) hp)),
       .eq 11 (eqS (x := IntKind.wrap .i64 (32 * Int.ofNat ((words m).length - 1))) (y := Int.ofNat (32 * ((words m).length - 1))) (by rw [wrapS (by simp only [Int.ofNat_eq_natCast]; omega) (by simp only [Int.ofNat_eq_natCast]; omega)]; simp)),
       .eq 15 (eqS (nat_pred (i := (words m).length) (by omega) hp)), .prop (at_need (l := words m) (i := (words m).length - 1) (by omega)), .prop (load_need (l := words m) (i := (words m).length - 1) (by omega)),
       .eq 17 (headD_need (l := words m) (i := (words m).length - 1) (by omega)), .code hl] (by kernel_rfl)
end Lw

namespace Lw
open Go Go.RowKit Go.Proofs

variable {G : World → Prop}

/-! ### Digits of doubled numbers -/
def dCar (R c k : Nat) : Nat := ((R % BP k) * 2 + c) / BP k
theorem dCar_zero (R c : Nat) : dCar R c 0 = c := by unfold dCar; rw [BP_zero, Nat.mod_one, Nat.zero_mul, Nat.zero_add, Nat.div_one]
theorem dCar_le {R c : Nat} (hc : c ≤ 1) (k : Nat) : dCar R c k ≤ 1 := by
  unfold dCar
  have h1 := mod_BP_lt R k
  have := BP_pos k
  have : (R % BP k * 2 + c) / BP k < 2 := (Nat.div_lt_iff_lt_mul (BP_pos k)).2 (by omega)
  omega
theorem dCar_step {R c : Nat} (hc : c ≤ 1) (k : Nat) : dCar R c (k + 1) = R / BP k % 4294967296 / 2147483648 := by
  have hle := dCar_le (R := R) hc k
  have e : dCar R c (k + 1) = (2 * (R / BP k % 4294967296) + dCar R c k) / 4294967296 := by
    unfold dCar
    rw [mod_BP_succ, BP_succ, Nat.mul_comm 4294967296, ← Nat.div_div_eq_div_mul]
    congr 1
    rw [show (BP k * (R / BP k % 4294967296) + R % BP k) * 2 + c = BP k * (2 * (R / BP k % 4294967296)) + (R % BP k * 2 + c) by grind, Nat.mul_add_div (BP_pos k)]
  rw [e]
  have : R / BP k % 4294967296 < 4294967296 := Nat.mod_lt _ (by omega)
  omega
theorem dCar_dig {R c : Nat} (k : Nat) : (2 * R + c) / BP k % 4294967296 = (2 * (R / BP k % 4294967296) + dCar R c k) % 4294967296 := by
  unfold dCar
  have h := Nat.div_add_mod R (BP k)
  have e : 2 * R + c = BP k * (2 * (R / BP k)) + (R % BP k * 2 + c) := by
    conv => lhs; rw [← h]
    grind
  rw [e, Nat.mul_add_div (BP_pos k)]
  omega
theorem or_small {x c : Nat} (hc : c ≤ 1) : (2 * x ||| c) = 2 * x + c := by
  have := (Nat.two_pow_add_eq_or_of_lt (i := 1) (b := c) (by omega) x)
  rw [show 2 ^ 1 = 2 from rfl] at this
  omega
theorem shl_or {w c : Nat} (hc : c ≤ 1) : ((2 * w) % 4294967296 ||| c) = (2 * w + c) % 4294967296 := by
  rw [show (2 * w) % 4294967296 = 2 * (w % 2147483648) by omega, or_small hc]; omega
theorem shl1_u32 (w : Nat) : IntKind.wrap .u32 (Int.ofNat w * 2 ^ min (Int.toNat 1) (IntKind.bits .u32)) = Int.ofNat (2 * w % 4294967296) := by
  have e : min (Int.toNat 1) (IntKind.bits .u32) = 1 := rfl
  rw [e, wrap32i]
  simp only [Int.ofNat_eq_natCast]
  omega
theorem shr31_u32 (w : Nat) : (Int.ofNat w).fdiv (2 ^ min (Int.toNat 31) (IntKind.bits .u32)) = Int.ofNat (w / 2147483648) := shr_u32 (x := w) 31 (by omega)
theorem and_one {x : Nat} (hx : x < 4294967296) :
    IntKind.wrap .u32 (((BitVec.ofInt (IntKind.bits .u32) (Int.ofNat x) &&& BitVec.ofInt (IntKind.bits .u32) 1).toNat : Nat) : Int) = Int.ofNat (x % 2) := by
  have e : (BitVec.ofInt (IntKind.bits .u32) (Int.ofNat x)).toNat = x := by
    show (BitVec.ofInt 32 (Int.ofNat x)).toNat = x
    simp only [Int.ofNat_eq_natCast, BitVec.ofInt_natCast, BitVec.toNat_ofNat]
    exact Nat.mod_eq_of_lt (by simpa using hx)
  have e1 : (BitVec.ofInt (IntKind.bits .u32) 1).toNat = 1 := by decide
  rw [BitVec.toNat_and, e, e1, Nat.and_one_is_mod]
  have h2 := wrap32 (n := x % 2)
  have h3 : x % 2 % 4294967296 = x % 2 := by omega
  rw [h3] at h2
  exact h2
/-- One bit of a number, off its word. -/
theorem word_bit (a i : Nat) : a / BP (i / 32) % 4294967296 / 2 ^ (i % 32) % 2 = a / 2 ^ i % 2 := by
  rw [BP_two]
  have e : 2 ^ i = 2 ^ (32 * (i / 32)) * 2 ^ (i % 32) := by rw [← Nat.pow_add]; congr 1; omega
  rw [e, ← Nat.div_div_eq_div_mul]
  generalize a / 2 ^ (32 * (i / 32)) = x
  have hs : i % 32 < 32 := Nat.mod_lt _ (by omega)
  generalize i % 32 = s at *
  have h32 : 4294967296 = 2 ^ s * 2 ^ (32 - s) := by rw [← Nat.pow_add, show s + (32 - s) = 32 by omega]
  have h2 : 2 ^ (32 - s) = 2 * 2 ^ (31 - s) := by rw [← Nat.pow_succ']; congr 1; omega
  rw [h32, Nat.mod_mul_right_div_self, h2, Nat.mod_mul_right_mod]

/-! ### take, in place -/
def takF (X Y t j : Nat) : Nat := if j < t then (X - Y) / BP j % 4294967296 else X / BP j % 4294967296
theorem takF_zero (X Y : Nat) : takF X Y 0 = fun j => X / BP j % 4294967296 := by funext j; unfold takF; rw [if_neg (by omega)]
theorem takF_next {N X Y t : Nat} (h : t < N) : splice (cel N (takF X Y t)) t [u32 ((X - Y) / BP t % 4294967296)] = cel N (takF X Y (t + 1)) := by
  rw [splice_cel _ _ h]
  refine cel_congr fun j _ => ?_
  unfold takF
  by_cases hj : j = t
  · subst hj; rw [if_pos rfl, if_pos (by omega)]
  · rw [if_neg hj]
    by_cases h2 : j < t
    · rw [if_pos h2, if_pos (by omega)]
    · rw [if_neg h2, if_neg (by omega)]
theorem takF_lt (X Y t j : Nat) : takF X Y t j < 4294967296 := by unfold takF; split <;> exact Nat.mod_lt _ (by omega)
theorem takF_end {N X Y : Nat} : cel N (takF X Y N) = (digs N (X - Y)).map u32 := by
  rw [← cel_digs]
  exact cel_congr fun j hj => by unfold takF; rw [if_pos hj]
theorem cel_list (N : Nat) (f : Nat → Nat) : cel N f = ((List.range N).map f).map u32 := by simp [cel]
theorem at_cells (hG : Steady G) {N i : Nat} {f : Nat → Nat} (hf : ∀ j, f j < 4294967296) (hi : i < N) :
    Spec Tryz.prog G 291 [.row N false (((cel N f).drop 0).take N), nat i] (u64 (f i)) := by
  have h := at_spec (G := G) hG ((List.range N).map f) (fun x hx => by simp only [List.mem_map] at hx; obtain ⟨j, -, rfl⟩ := hx; exact hf j) i
  have e : rowW ((List.range N).map f) = .row N false (((cel N f).drop 0).take N) := by
    unfold rowW
    rw [cel_list, List.drop_zero, List.take_of_length_le (by simp)]
    simp
  have e2 : ((List.range N).map f).getD i 0 = f i := by simp [List.getD_eq_getElem?_getD, hi]
  rw [e, e2] at h
  exact h
def takeInv (N : Nat) (v : List Nat) (X : Nat) (qs : List D) (t : Nat) : St :=
  lay 31 [(0, .slc 1 0 N N), (1, rowW v), (4, u64 (cSub X (val v) t)), (8, nat N), (9, nat t)] [(0, qs), (1, cel N (takF X (val v) t))]
theorem take_round (hG : Steady G) {N X : Nat} {v : List Nat} {qs : List D} (hv : Dig v) (hle : val v ≤ X) (hN : N < 2 ^ 40) {t : Nat} (ht : t < N) :
    Goes Tryz.prog G 2 (loopOf Tryz.f228 0) (takeInv N v X qs t) .normal (takeInv N v X qs (t + 1)) := by
  have h40 : (2:Nat) ^ 40 = 1099511627776 := by decide
  have h60 : (2:Nat) ^ 60 = 1152921504606846976 := by decide
  have hd := brw_dig (i := t) hle
  have hn := brw_next (a := X) (b := val v) (i := t)
  rw [← getD_val hv] at hd hn
  have h1 : X / BP t % 4294967296 < 4294967296 := Nat.mod_lt _ (by omega)
  have h2 := hv.getD t
  have h3 := cSub_le X (val v) t
  have ha := at_cells (G := G) hG (f := takF X (val v) t) (takF_lt X (val v) t) ht
  have e0 : takF X (val v) t t = X / BP t % 4294967296 := by unfold takF; rw [if_neg (by omega)]
  rw [e0] at ha
  have hq := brw_one (x := X / BP t % 4294967296) (y := v.getD t 0) (c := cSub X (val v) t) h1
  have e : takeInv N v X qs (t + 1) = lay 31 [(0, .slc 1 0 N N), (1, rowW v), (4, u64 (cSub X (val v) (t + 1))), (8, nat N), (9, nat (t + 1))] [(0, qs), (1, splice (cel N (takF X (val v) t)) t [u32 ((X - val v) / BP t % 4294967296)])] := by
    rw [takF_next ht]; rfl
  rw [e]; clear e
  exact Goes.of_run hG (ro := []) (m := 30) (lay_len ..)
    [.eq 10 (eqB (lt_true ht)), .call ha, .eq 15 (eq64 (add32 h1)), .call (at_spec hG v hv t), .eq 19 (eq64 (x := IntKind.wrap .u64 (Int.ofNat (4294967296 + X / BP t % 4294967296) - Int.ofNat (v.getD t 0))) (y := Int.ofNat (4294967296 + X / BP t % 4294967296 - v.getD t 0)) (wrap_less (by omega) (by omega))),
     .eq 21 (eq64 (x := IntKind.wrap .u64 (Int.ofNat (4294967296 + X / BP t % 4294967296 - v.getD t 0) - Int.ofNat (cSub X (val v) t))) (y := Int.ofNat (brw (X / BP t % 4294967296) (v.getD t 0) (cSub X (val v) t))) (wrap_less (by omega) (by omega))),
     .eq 25 (eq32 (x := IntKind.wrap .u32 (Int.ofNat (brw (X / BP t % 4294967296) (v.getD t 0) (cSub X (val v) t)))) (y := Int.ofNat ((X - val v) / BP t % 4294967296)) (by rw [conv32, hd])),
     .eq 27 (eq64 (shr32 (brw (X / BP t % 4294967296) (v.getD t 0) (cSub X (val v) t)))), .eq 28 (eq64 (x := IntKind.wrap .u64 (1 - Int.ofNat (brw (X / BP t % 4294967296) (v.getD t 0) (cSub X (val v) t) / 4294967296))) (y := Int.ofNat (cSub X (val v) (t + 1))) (by rw [one_less hq, hn])),
     .prop (ix_need ht), .eq 29 (ptr_at 1 t), .prop (p := t + 1 ≤ (cel N (takF X (val v) t)).length) (by rw [cel_len]; omega), .eq 30 (eqS (nat_succ (i := t) (by omega)))] (by kernel_rfl)
theorem take_last (hG : Steady G) {N X : Nat} {v : List Nat} {qs : List D} : Goes Tryz.prog G 2 (loopOf Tryz.f228 0) (takeInv N v X qs N) (.exit 0) (takeInv N v X qs N) :=
  Goes.of_run hG (ro := []) (m := 30) (lay_len ..) [.eq 10 (eqB (lt_false (Nat.le_refl N)))] (by kernel_rfl)
theorem take_loop (hG : Steady G) {N X : Nat} {v : List Nat} (qs : List D) (hv : Dig v) (hle : val v ≤ X) (hN : N < 2 ^ 40) :
    Abs Tryz.prog G 31 2 (.loop (loopOf Tryz.f228 0))
      (lay 31 [(0, .slc 1 0 N N), (1, rowW v), (4, u64 0), (8, nat N), (9, nat 0)] [(0, qs), (1, cel N (fun j => X / BP j % 4294967296))]) (.exit 0) (takeInv N v X qs N) := by
  have h := Abs.count (takeInv N v X qs) N (fun k => lay_len _ _ _) (by simp) (fun i hi => take_round hG hv hle hN hi) (take_last hG)
  have e : takeInv N v X qs 0 = lay 31 [(0, .slc 1 0 N N), (1, rowW v), (4, u64 0), (8, nat N), (9, nat 0)] [(0, qs), (1, cel N (fun j => X / BP j % 4294967296))] := by
    unfold takeInv; rw [takF_zero, cSub_zero]
  rw [e] at h; exact h

/-! ### The doubling of the rest -/
structure RDiv where
  A : Nat
  B : Nat
def RDiv.la (d : RDiv) : Nat := (words d.A).length
def RDiv.N (d : RDiv) : Nat := (words d.B).length + 1
def RDiv.R (d : RDiv) (c : Nat) : Nat := d.A / 2 ^ c % d.B
def RDiv.c0 (d : RDiv) (i : Nat) : Nat := d.A / 2 ^ i % 2
def RDiv.X (d : RDiv) (i : Nat) : Nat := 2 * d.R (i + 1) + d.c0 i
def dblF (R X k j : Nat) : Nat := if j < k then X / BP j % 4294967296 else R / BP j % 4294967296
theorem dblF_next {N R X t : Nat} (h : t < N) : splice (cel N (dblF R X t)) t [u32 (X / BP t % 4294967296)] = cel N (dblF R X (t + 1)) := by
  rw [splice_cel _ _ h]
  refine cel_congr fun j _ => ?_
  unfold dblF
  by_cases hj : j = t
  · subst hj; rw [if_pos rfl, if_pos (by omega)]
  · rw [if_neg hj]
    by_cases h2 : j < t
    · rw [if_pos h2, if_pos (by omega)]
    · rw [if_neg h2, if_neg (by omega)]
def dblInv (d : RDiv) (i : Nat) (qs : List D) (k : Nat) : St :=
  lay 76 [(0, rowW (words d.A)), (1, rowW (words d.B)), (6, .slc 0 0 d.la d.la), (7, .slc 1 0 d.N d.N), (8, nat i), (9, u32 (dCar (d.R (i + 1)) (d.c0 i) k)), (35, nat d.N), (36, nat k)]
    [(0, qs), (1, cel d.N (dblF (d.R (i + 1)) (d.X i) k))]
theorem dbl_round (hG : Steady G) {d : RDiv} {i : Nat} {qs : List D} (hN : d.N < 2 ^ 40) {k : Nat} (hk : k < d.N) :
    Goes Tryz.prog G 0 (loopOf Tryz.f334 1) (dblInv d i qs k) .normal (dblInv d i qs (k + 1)) := by
  have h40 : (2:Nat) ^ 40 = 1099511627776 := by decide
  have h60 : (2:Nat) ^ 60 = 1152921504606846976 := by decide
  have hc : d.c0 i ≤ 1 := by unfold RDiv.c0; omega
  have hw : d.R (i + 1) / BP k % 4294967296 < 4294967296 := Nat.mod_lt _ (by omega)
  have hcar := dCar_le (R := d.R (i + 1)) hc k
  have hs := dCar_step (R := d.R (i + 1)) hc k
  have hd := dCar_dig (R := d.R (i + 1)) (c := d.c0 i) k
  have hcell : ((cel d.N (dblF (d.R (i + 1)) (d.X i) k)).drop k).headD .any = u32 (d.R (i + 1) / BP k % 4294967296) := by rw [cel_getD hk]; unfold dblF; rw [if_neg (by omega)]
  have e : dblInv d i qs (k + 1) = lay 76 [(0, rowW (words d.A)), (1, rowW (words d.B)), (6, .slc 0 0 d.la d.la), (7, .slc 1 0 d.N d.N), (8, nat i), (9, u32 (dCar (d.R (i + 1)) (d.c0 i) (k + 1))), (35, nat d.N), (36, nat (k + 1))]
      [(0, qs), (1, splice (cel d.N (dblF (d.R (i + 1)) (d.X i) k)) k [u32 (d.X i / BP k % 4294967296)])] := by
    rw [dblF_next hk]; rfl
  rw [e]; clear e
  have hor : IntKind.wrap .u32 (((BitVec.ofInt (IntKind.bits .u32) (Int.ofNat (2 * (d.R (i + 1) / BP k % 4294967296) % 4294967296)) ||| BitVec.ofInt (IntKind.bits .u32) (Int.ofNat (dCar (d.R (i + 1)) (d.c0 i) k))).toNat : Nat) : Int) = Int.ofNat (d.X i / BP k % 4294967296) := by
    rw [or_bits32 (Nat.mod_lt _ (by omega)) (by omega), shl_or hcar, ← hd]; rfl
  exact Goes.of_run hG (ro := []) (m := 30) (lay_len ..)
    [.eq 37 (eqB (lt_true hk)), .prop (ix_need hk), .eq 43 (ptr_at 1 k), .prop (p := 0 < 1 ∧ k + 1 ≤ (cel d.N (dblF (d.R (i + 1)) (d.X i) k)).length) (by rw [cel_len]; omega), .eq 44 hcell,
     .eq 45 (eq32 (shl1_u32 (d.R (i + 1) / BP k % 4294967296))), .eq 47 (eq32 hor), .prop (ix_need hk), .eq 50 (ptr_at 1 k), .prop (p := 0 < 1 ∧ k + 1 ≤ (cel d.N (dblF (d.R (i + 1)) (d.X i) k)).length) (by rw [cel_len]; omega), .eq 51 hcell,
     .eq 52 (eq32 (x := (Int.ofNat (d.R (i + 1) / BP k % 4294967296)).fdiv (2 ^ min (Int.toNat 31) (IntKind.bits .u32))) (y := Int.ofNat (dCar (d.R (i + 1)) (d.c0 i) (k + 1))) (by rw [shr31_u32, hs])),
     .prop (ix_need hk), .eq 53 (ptr_at 1 k), .prop (p := k + 1 ≤ (cel d.N (dblF (d.R (i + 1)) (d.X i) k)).length) (by rw [cel_len]; omega), .eq 54 (eqS (nat_succ (i := k) (by omega)))] (by kernel_rfl)
theorem dbl_last (hG : Steady G) {d : RDiv} {i : Nat} {qs : List D} : Goes Tryz.prog G 0 (loopOf Tryz.f334 1) (dblInv d i qs d.N) (.exit 2) (dblInv d i qs d.N) :=
  Goes.of_run hG (ro := []) (m := 30) (lay_len ..) [.eq 37 (eqB (lt_false (Nat.le_refl d.N)))] (by kernel_rfl)
theorem dbl_loop (hG : Steady G) {d : RDiv} {i : Nat} (qs : List D) (hN : d.N < 2 ^ 40) :
    Abs Tryz.prog G 76 0 (.loop (loopOf Tryz.f334 1))
      (lay 76 [(0, rowW (words d.A)), (1, rowW (words d.B)), (6, .slc 0 0 d.la d.la), (7, .slc 1 0 d.N d.N), (8, nat i), (9, u32 (d.c0 i)), (35, nat d.N), (36, nat 0)]
        [(0, qs), (1, cel d.N (fun j => d.R (i + 1) / BP j % 4294967296))]) (.exit 2) (dblInv d i qs d.N) := by
  have h := Abs.count (dblInv d i qs) d.N (fun k => lay_len _ _ _) (by simp) (fun k hk => dbl_round hG hN hk) (dbl_last hG)
  have e : dblInv d i qs 0 = lay 76 [(0, rowW (words d.A)), (1, rowW (words d.B)), (6, .slc 0 0 d.la d.la), (7, .slc 1 0 d.N d.N), (8, nat i), (9, u32 (d.c0 i)), (35, nat d.N), (36, nat 0)]
        [(0, qs), (1, cel d.N (fun j => d.R (i + 1) / BP j % 4294967296))] := by
    unfold dblInv
    rw [dCar_zero]
    congr 3
  rw [e] at h; exact h

/-! ### The bits of the quotient -/
theorem setbit (K i j : Nat) : (K * 2 ^ (i + 1) + 2 ^ i) / BP j % 4294967296 = if j = i / 32 then (K * 2 ^ (i + 1) / BP j % 4294967296 ||| 2 ^ (i % 32)) else K * 2 ^ (i + 1) / BP j % 4294967296 := by
  have hs : i % 32 < 32 := Nat.mod_lt _ (by omega)
  have hi : i = i % 32 + 32 * (i / 32) := by omega
  generalize i / 32 = j0 at *
  generalize i % 32 = s at *
  subst hi
  have e1 : 2 ^ (s + 32 * j0) = 2 ^ s * BP j0 := by rw [BP_two, ← Nat.pow_add]
  have e2 : K * 2 ^ (s + 32 * j0 + 1) = (2 ^ (s + 1) * K) * BP j0 := by
    rw [show s + 32 * j0 + 1 = (s + 1) + 32 * j0 by omega, Nat.pow_add, BP_two, Nat.mul_comm (2 ^ (s + 1)) K, Nat.mul_assoc]
  rw [e1, e2, ← Nat.add_mul]
  have h32 : 4294967296 = 2 ^ (s + 1) * 2 ^ (31 - s) := by rw [← Nat.pow_add, show s + 1 + (31 - s) = 32 by omega]
  have hm : (2 ^ (s + 1) * K) % 4294967296 = 2 ^ (s + 1) * (K % 2 ^ (31 - s)) := by rw [h32, Nat.mul_mod_mul_left]
  have hK : K % 2 ^ (31 - s) < 2 ^ (31 - s) := Nat.mod_lt _ (Nat.two_pow_pos _)
  have hlt : 2 ^ (s + 1) * (K % 2 ^ (31 - s)) + 2 ^ (s + 1) ≤ 4294967296 := by
    conv => rhs; rw [h32]
    rw [← Nat.mul_succ]; exact Nat.mul_le_mul_left _ hK
  have hss : 2 ^ (s + 1) = 2 * 2 ^ s := by rw [Nat.pow_succ]; omega
  have hsp : 0 < 2 ^ s := Nat.two_pow_pos s
  rcases Nat.lt_or_ge j j0 with h | h
  · rw [if_neg (by omega)]
    have e3 : BP j0 = (BP (j0 - j - 1) * 4294967296) * BP j := by
      conv => lhs; rw [show j0 = (j0 - j - 1) + 1 + j by omega, BP_add, BP_succ]
      rw [Nat.mul_comm 4294967296]
    rw [e3, ← Nat.mul_assoc, ← Nat.mul_assoc, Nat.mul_div_cancel _ (BP_pos j), Nat.mul_mod_left, ← Nat.mul_assoc, ← Nat.mul_assoc, Nat.mul_div_cancel _ (BP_pos j), Nat.mul_mod_left]
  · have e4 : ∀ T : Nat, T * BP j0 / BP j = T / BP (j - j0) := fun T => by
      conv => lhs; rw [show j = j0 + (j - j0) by omega, BP_add]
      rw [← Nat.div_div_eq_div_mul, Nat.mul_div_cancel _ (BP_pos j0)]
    rw [e4, e4]
    generalize hT : 2 ^ (s + 1) * K = T at *
    rcases Nat.eq_or_lt_of_le h with h | h
    · subst h
      rw [if_pos rfl, Nat.sub_self, BP_zero, Nat.div_one, Nat.div_one, hm, ← Nat.two_pow_add_eq_or_of_lt (by omega), Nat.add_mod, hm]
      rw [Nat.mod_eq_of_lt (show 2 ^ s < 4294967296 by omega), Nat.mod_eq_of_lt (by omega)]
    · rw [if_neg (by omega), show j - j0 = 1 + (j - j0 - 1) by omega, BP_add, ← Nat.div_div_eq_div_mul, ← Nat.div_div_eq_div_mul]
      have e5 : BP 1 = 4294967296 := rfl
      rw [e5]
      have : (T + 2 ^ s) / 4294967296 = T / 4294967296 := by omega
      rw [this]
def RDiv.ok (d : RDiv) : Prop := 0 < d.B ∧ d.la ≤ 2 ^ 36 ∧ d.N ≤ 2 ^ 36 + 1
def RDiv.qF (d : RDiv) (c j : Nat) : Nat := (d.A / 2 ^ c / d.B * 2 ^ c) / BP j % 4294967296
def divInv (d : RDiv) (c : Nat) : St :=
  lay 76 [(0, rowW (words d.A)), (1, rowW (words d.B)), (6, .slc 0 0 d.la d.la), (7, .slc 1 0 d.N d.N), (8, int (cnt c))] [(0, cel d.la (d.qF c)), (1, cel d.N (fun j => d.R c / BP j % 4294967296))]
theorem RDiv.step {d : RDiv} (hB : 0 < d.B) (i : Nat) :
    d.A / 2 ^ i / d.B = 2 * (d.A / 2 ^ (i + 1) / d.B) + (if d.B ≤ d.X i then 1 else 0) ∧ d.R i = if d.B ≤ d.X i then d.X i - d.B else d.X i := by
  have h := bit_step (x := d.A / 2 ^ (i + 1)) (b := d.B) (c := d.A / 2 ^ i % 2) hB (by omega)
  rw [← div_two_pow_succ] at h
  exact h
theorem RDiv.X_lt {d : RDiv} (hB : 0 < d.B) (i : Nat) : d.X i < BP d.N := by
  have h1 : d.R (i + 1) < d.B := Nat.mod_lt _ hB
  have h2 : d.B < BP (words d.B).length := (len_le_iff _ _).1 (Nat.le_refl _)
  unfold RDiv.N
  rw [BP_succ]
  unfold RDiv.X RDiv.c0
  omega
theorem RDiv.q_set {d : RDiv} (hB : 0 < d.B) {i : Nat} (h : d.B ≤ d.X i) (j : Nat) : d.qF i j = if j = i / 32 then (d.qF (i + 1) j ||| 2 ^ (i % 32)) else d.qF (i + 1) j := by
  unfold RDiv.qF
  rw [(RDiv.step hB i).1, if_pos h, Nat.add_mul, Nat.one_mul, Nat.mul_comm 2, Nat.mul_assoc, ← Nat.pow_succ', setbit]
theorem RDiv.q_keep {d : RDiv} (hB : 0 < d.B) {i : Nat} (h : ¬ d.B ≤ d.X i) (j : Nat) : d.qF i j = d.qF (i + 1) j := by
  unfold RDiv.qF
  rw [(RDiv.step hB i).1, if_neg h, Nat.add_zero, Nat.mul_comm 2, Nat.mul_assoc, ← Nat.pow_succ']
theorem RDiv.cmp (hG : Steady G) {d : RDiv} (hd : d.ok) (i : Nat) (k : Nat) (hk : k = d.N) :
    Spec Tryz.prog G 227 [.row d.N false (((cel d.N (dblF (d.R (i + 1)) (d.X i) k)).drop 0).take d.N), rowW (words d.B)] (int (cmpI (d.X i) d.B)) := by
  obtain ⟨hB, -, hN⟩ := hd
  have h36 : (2:Nat) ^ 36 = 68719476736 := by decide
  have h40 : (2:Nat) ^ 40 = 1099511627776 := by decide
  have h := rcompare_spec (G := G) hG (l := digs d.N (d.X i)) (m := words d.B) (digs_dig _ _) (dig_words _) (by rw [digs_len]; omega) (by unfold RDiv.N at hN; omega)
  rw [val_digs (RDiv.X_lt hB i), val_words, ← cel_row] at h
  have e : cel d.N (dblF (d.R (i + 1)) (d.X i) k) = cel d.N (fun j => d.X i / BP j % 4294967296) := cel_congr fun j hj => by unfold dblF; rw [if_pos (by omega)]
  rw [e]; exact h
theorem ndivs_round (hG : Steady G) {d : RDiv} (hd : d.ok) {i : Nat} (hi : i < bl d.A) :
    Goes Tryz.prog G 0 (loopOf Tryz.f334 0) (divInv d (i + 1)) .normal (divInv d i) := by
  have hcmp := RDiv.cmp (G := G) hG hd i d.N rfl
  obtain ⟨hB, hla, hN⟩ := hd
  have h36 : (2:Nat) ^ 36 = 68719476736 := by decide
  have h40 : (2:Nat) ^ 40 = 1099511627776 := by decide
  have h60 : (2:Nat) ^ 60 = 1152921504606846976 := by decide
  have hbl : bl d.A ≤ 32 * d.la := by
    rcases Nat.lt_or_ge (32 * d.la) (bl d.A) with q | q
    · have h1 := bl_le (x := d.A) (fun e => by rw [e, bl_zero] at hi; omega)
      have h2 : d.A < BP d.la := (len_le_iff _ _).1 (Nat.le_refl _)
      rw [BP_two] at h2
      have h3 : 2 ^ (32 * d.la) ≤ 2 ^ (bl d.A - 1) := Nat.pow_le_pow_right (by omega) (by omega)
      omega
    · exact q
  have hix : i / 32 < d.la := by omega
  have hi60 : i < 2 ^ 60 := by omega
  have hwd := (dig_words d.A).getD (i / 32)
  have hwn : 0 ≤ Int.ofNat (i % 32) := by simp only [Int.ofNat_eq_natCast]; omega
  have hdbl := dbl_loop (G := G) hG (d := d) (i := i) (cel d.la (d.qF (i + 1))) (by omega)
  have hbit : Int.ofNat ((words d.A).getD (i / 32) 0 / 2 ^ (i % 32) % 2) = Int.ofNat (d.c0 i) := by rw [words_getD, word_bit]; rfl
  have hand : IntKind.wrap .u32 (((BitVec.ofInt (IntKind.bits .u32) (Int.ofNat ((words d.A).getD (i / 32) 0 / 2 ^ (i % 32))) &&& BitVec.ofInt (IntKind.bits .u32) 1).toNat : Nat) : Int) = Int.ofNat (d.c0 i) := by
    rw [and_one (Nat.lt_of_le_of_lt (Nat.div_le_self _ _) hwd), hbit]
  by_cases hge : d.B ≤ d.X i
  · have htake := take_loop (G := G) hG (N := d.N) (X := d.X i) (v := words d.B) (cel d.la (d.qF (i + 1))) (dig_words _) (by rw [val_words]; exact hge) (by omega)
    have edbl : cel d.N (dblF (d.R (i + 1)) (d.X i) d.N) = cel d.N (fun j => d.X i / BP j % 4294967296) := cel_congr fun j hj => by unfold dblF; rw [if_pos hj]
    rw [← edbl] at htake
    have hqlt : d.qF (i + 1) (i / 32) < 4294967296 := Nat.mod_lt _ (by omega)
    have h2lt : 2 ^ (i % 32) < 4294967296 := by have := Nat.pow_lt_pow_right (a := 2) (by omega) (show i % 32 < 32 by omega); have h32 : 2 ^ 32 = 4294967296 := by decide
                                                omega
    have e : divInv d i = lay 76 [(0, rowW (words d.A)), (1, rowW (words d.B)), (6, .slc 0 0 d.la d.la), (7, .slc 1 0 d.N d.N), (8, int (cnt i))]
        [(0, splice (cel d.la (d.qF (i + 1))) (i / 32) [u32 (d.qF (i + 1) (i / 32) ||| 2 ^ (i % 32))]), (1, cel d.N (takF (d.X i) (val (words d.B)) d.N))] := by
      rw [splice_cel _ _ hix]
      unfold divInv
      have f1 : cel d.la (d.qF i) = cel d.la (fun j => if j = i / 32 then d.qF (i + 1) (i / 32) ||| 2 ^ (i % 32) else d.qF (i + 1) j) := cel_congr fun j _ => by
        rw [RDiv.q_set hB hge]
        by_cases hj : j = i / 32
        · rw [if_pos hj, if_pos hj, hj]
        · rw [if_neg hj, if_neg hj]
      have f2 : cel d.N (fun j => d.R i / BP j % 4294967296) = cel d.N (takF (d.X i) (val (words d.B)) d.N) := cel_congr fun j hj => by
        unfold takF
        rw [if_pos hj, val_words, (RDiv.step hB i).2, if_pos hge]
      rw [f1, f2]
    rw [e]; clear e
    exact Goes.of_run hG (ro := []) (m := 40) (lay_len ..)
      [.eq 22 (eqB (x := decide (Int.ofNat i ≥ 0)) (y := true) (by simp)), .eq 27 (eqS (nat_quo (i := i) (c := 32) hi60)), .prop (at_need (l := words d.A) (i := i / 32) hix), .prop (load_need (l := words d.A) (i := i / 32) hix), .eq 29 (headD_need (l := words d.A) (i := i / 32) hix),
       .eq 31 (eqS (nat_rem i 32)), .prop hwn, .eq 32 (eq32 (shr_u32 (x := (words d.A).getD (i / 32) 0) (i % 32) (by omega))), .eq 33 (eq32 hand), .code hdbl, .call hcmp, .eq 58 (eqB (cmp_ge0 hge)),
       .inl [] Tryz.func228, .code htake,
       .eq 64 (eqS (nat_quo (i := i) (c := 32) hi60)), .prop (ix_need hix), .eq 65 (ptr_at 0 (i / 32)), .prop (p := 0 < 1 ∧ i / 32 + 1 ≤ (cel d.la (d.qF (i + 1))).length) (by rw [cel_len]; omega), .eq 66 (cel_getD (N := d.la) (f := d.qF (i + 1)) hix),
       .eq 68 (eqS (nat_rem i 32)), .prop hwn, .eq 69 (eq32 (shl_one (k := i % 32) (by omega))), .eq 70 (eq32 (or_bits32 hqlt h2lt)), .prop (ix_need hix), .eq 71 (ptr_at 0 (i / 32)), .prop (p := i / 32 + 1 ≤ (cel d.la (d.qF (i + 1))).length) (by rw [cel_len]; omega),
       .eq 24 (eqS (cnt_top hi60))] (by kernel_rfl)
  · have e : divInv d i = lay 76 [(0, rowW (words d.A)), (1, rowW (words d.B)), (6, .slc 0 0 d.la d.la), (7, .slc 1 0 d.N d.N), (8, int (cnt i))] [(0, cel d.la (d.qF (i + 1))), (1, cel d.N (dblF (d.R (i + 1)) (d.X i) d.N))] := by
      unfold divInv
      have f1 : cel d.la (d.qF i) = cel d.la (d.qF (i + 1)) := cel_congr fun j _ => RDiv.q_keep hB hge j
      have f2 : cel d.N (fun j => d.R i / BP j % 4294967296) = cel d.N (dblF (d.R (i + 1)) (d.X i) d.N) := cel_congr fun j hj => by
        unfold dblF
        rw [if_pos hj, (RDiv.step hB i).2, if_neg hge]
      rw [f1, f2]
    rw [e]; clear e
    exact Goes.of_run hG (ro := []) (m := 40) (lay_len ..)
      [.eq 22 (eqB (x := decide (Int.ofNat i ≥ 0)) (y := true) (by simp)), .eq 27 (eqS (nat_quo (i := i) (c := 32) hi60)), .prop (at_need (l := words d.A) (i := i / 32) hix), .prop (load_need (l := words d.A) (i := i / 32) hix), .eq 29 (headD_need (l := words d.A) (i := i / 32) hix),
       .eq 31 (eqS (nat_rem i 32)), .prop hwn, .eq 32 (eq32 (shr_u32 (x := (words d.A).getD (i / 32) 0) (i % 32) (by omega))), .eq 33 (eq32 hand), .code hdbl, .call hcmp, .eq 58 (eqB (cmp_lt0 (a := d.X i) (b := d.B) (by omega))),
       .eq 24 (eqS (cnt_top hi60))] (by kernel_rfl)
theorem ndivs_last (hG : Steady G) {d : RDiv} : Goes Tryz.prog G 0 (loopOf Tryz.f334 0) (divInv d 0) (.exit 0) (divInv d 0) :=
  Goes.of_run hG (ro := []) (m := 30) (lay_len ..) [] (by kernel_rfl)
theorem ndivs_loop (hG : Steady G) {d : RDiv} (hd : d.ok) :
    Abs Tryz.prog G 76 0 (.loop (loopOf Tryz.f334 0))
      (lay 76 [(0, rowW (words d.A)), (1, rowW (words d.B)), (6, .slc 0 0 d.la d.la), (7, .slc 1 0 d.N d.N), (8, int (cnt (bl d.A)))] [(0, List.replicate d.la (u32 0)), (1, List.replicate d.N (u32 0))]) (.exit 0) (divInv d 0) := by
  have h := Abs.down (divInv d) (bl d.A) (fun i => lay_len _ _ _) (by simp) (fun i hi => ndivs_round hG hd hi) (ndivs_last hG)
  have e : divInv d (bl d.A) = lay 76 [(0, rowW (words d.A)), (1, rowW (words d.B)), (6, .slc 0 0 d.la d.la), (7, .slc 1 0 d.N d.N), (8, int (cnt (bl d.A)))] [(0, List.replicate d.la (u32 0)), (1, List.replicate d.N (u32 0))] := by
    rw [cel_zero, cel_zero]
    have h0 : d.A / 2 ^ bl d.A = 0 := Nat.div_eq_of_lt (bl_lt _)
    unfold divInv
    have f1 : cel d.la (d.qF (bl d.A)) = cel d.la (fun _ => 0) := cel_congr fun j _ => by unfold RDiv.qF; rw [h0, Nat.zero_div, Nat.zero_mul, Nat.zero_div]
    have f2 : cel d.N (fun j => d.R (bl d.A) / BP j % 4294967296) = cel d.N (fun _ => 0) := cel_congr fun j _ => by unfold RDiv.R; rw [h0, Nat.zero_mod, Nat.zero_div]
    rw [f1, f2]
  rw [e] at h; exact h
theorem rdivide_spec (hG : Steady G) {a b : Nat} (hb0 : 0 < b) (h1 : (words a).length ≤ 2 ^ 36) (h2 : (words b).length ≤ 2 ^ 36) :
    Spec Tryz.prog G 334 [rowW (words a), rowW (words b)] (.tup [rowW (words (a / b)), rowW (words (a % b))]) := by
  have h36 : (2:Nat) ^ 36 = 68719476736 := by decide
  have h40 : (2:Nat) ^ 40 = 1099511627776 := by decide
  have h60 : (2:Nat) ^ 60 = 1152921504606846976 := by decide
  have hd : (RDiv.mk a b).ok := ⟨hb0, h1, by show (words b).length + 1 ≤ _; omega⟩
  have hbl : bl a ≤ 32 * (words a).length := by
    rcases Nat.eq_zero_or_pos a with h | h
    · subst h; exact Nat.zero_le _
    · have h3 := (len_le_iff a _).1 (Nat.le_refl _)
      rcases Nat.lt_or_ge (32 * (words a).length) (bl a) with q | q
      · have h4 := bl_le (x := a) (by omega)
        rw [BP_two] at h3
        have h5 : 2 ^ (32 * (words a).length) ≤ 2 ^ (bl a - 1) := Nat.pow_le_pow_right (by omega) (by omega)
        omega
      · exact q
  have hq : a / b < BP (words a).length := Nat.lt_of_le_of_lt (Nat.div_le_self _ _) ((len_le_iff a _).1 (Nat.le_refl _))
  have hr : a % b < BP ((words b).length + 1) := by
    have := Nat.mod_lt a hb0
    have := (len_le_iff b _).1 (Nat.le_refl _)
    rw [BP_succ]; omega
  have t1 := rtrim_spec (G := G) hG (l := digs (words a).length (a / b)) (digs_dig _ _) (by rw [digs_len]; omega)
  have t2 := rtrim_spec (G := G) hG (l := digs ((words b).length + 1) (a % b)) (digs_dig _ _) (by rw [digs_len]; omega)
  rw [words_digs hq] at t1
  rw [words_digs hr] at t2
  have e1 : D.row (words a).length false (((cel (words a).length (RDiv.qF ⟨a, b⟩ 0)).drop 0).take (words a).length) = rowW (digs (words a).length (a / b)) := by
    rw [← cel_row]
    congr 3
    exact cel_congr fun j _ => by unfold RDiv.qF; simp only [Nat.pow_zero, Nat.div_one, Nat.mul_one]
  have e2 : D.row ((words b).length + 1) false (((cel ((words b).length + 1) (fun j => RDiv.R ⟨a, b⟩ 0 / BP j % 4294967296)).drop 0).take ((words b).length + 1)) = rowW (digs ((words b).length + 1) (a % b)) := by
    rw [← cel_row]
    congr 3
    exact cel_congr fun j _ => by unfold RDiv.R; simp only [Nat.pow_zero, Nat.div_one]
  exact Spec.of_run hG Tryz.func334 (ro := []) (m := 40)
    [.prop (make_need (N := (words a).length) (by omega)), .eq 16 (eqS (nat_succ (i := (words b).length) (by omega))), .prop (make_need (N := (words b).length + 1) (by omega)), .call (rbits_spec hG h1), .eq 20 (eqS (cnt_top (n := bl a) (by omega))),
     .code (ndivs_loop hG hd), .freeze 0, .freeze 1, .eq 72 e1, .call t1, .eq 74 e2, .call t2] (by kernel_rfl)
end Lw

namespace Lw
open Go Go.RowKit Go.Proofs

variable {G : World → Prop}

/-! ### Plain laws -/
theorem first_fail {P : Nat → Prop} : ∀ n, ¬ P n → ∃ T, (∀ t, t < T → P t) ∧ ¬ P T := by
  intro n
  induction n with
  | zero => intro h; exact ⟨0, fun t ht => absurd ht (by omega), h⟩
  | succ n ih =>
    intro h
    by_cases hn : P n
    · by_cases hall : ∀ t, t < n + 1 → P t
      · exact ⟨n + 1, hall, h⟩
      · have : ∃ t, t < n + 1 ∧ ¬ P t := Classical.byContradiction fun hc => hall fun t ht => Classical.byContradiction fun hp => hc ⟨t, ht, hp⟩
        obtain ⟨t, ht, hp⟩ := this
        by_cases hall2 : ∃ s, s < n + 1 ∧ ¬ P s ∧ ∀ r, r < s → P r
        · obtain ⟨s, -, h1, h2⟩ := hall2; exact ⟨s, h2, h1⟩
        · exfalso
          have : ∀ k, ∀ s, s < k → s < n + 1 → P s := by
            intro k
            induction k with
            | zero => intro s hs; omega
            | succ k ihk =>
              intro s hs hsn
              by_cases hps : P s
              · exact hps
              · exact absurd ⟨s, hsn, hps, fun r hr => ihk r (by omega) (by omega)⟩ hall2
          exact hp (this (n + 1) t ht ht)
    · exact ih hn
theorem strip_exists {n : Nat} (h : 0 < n) : ∃ T, (∀ i, i < T → n / 2 ^ i % 2 = 0) ∧ ¬ n / 2 ^ T % 2 = 0 := by
  refine first_fail (P := fun i => n / 2 ^ i % 2 = 0) (bl n - 1) ?_
  have h1 := bl_le (x := n) (by omega)
  have h2 := bl_lt n
  have h3 := bl_pos (x := n) (by omega)
  have h4 : n / 2 ^ (bl n - 1) = 1 := by
    refine Nat.div_eq_of_lt_le (by omega) ?_
    rw [show (1 + 1) * 2 ^ (bl n - 1) = 2 ^ bl n by rw [show bl n = (bl n - 1) + 1 by omega, Nat.pow_succ]; simp only [Nat.add_sub_cancel]; omega]
    exact h2
  show ¬ n / 2 ^ (bl n - 1) % 2 = 0
  rw [h4]; omega
noncomputable def tz (n : Nat) : Nat := if h : 0 < n then Classical.choose (strip_exists h) else 0
theorem tz_even {n : Nat} (h : 0 < n) {i : Nat} (hi : i < tz n) : n / 2 ^ i % 2 = 0 := by
  unfold tz at hi
  rw [dif_pos h] at hi
  exact (Classical.choose_spec (strip_exists h)).1 i hi
theorem tz_odd {n : Nat} (h : 0 < n) : n / 2 ^ tz n % 2 = 1 := by
  unfold tz
  rw [dif_pos h]
  have := (Classical.choose_spec (strip_exists h)).2
  omega
noncomputable def oddp (n : Nat) : Nat := n / 2 ^ tz n
theorem oddp_pos {n : Nat} (h : 0 < n) : 0 < oddp n := by
  have := tz_odd h
  unfold oddp
  rcases Nat.eq_zero_or_pos (n / 2 ^ tz n) with e | e
  · rw [e] at this; omega
  · exact e
theorem oddp_le (n : Nat) : oddp n ≤ n := Nat.div_le_self _ _
theorem half_step (a i : Nat) : a / 2 ^ (i + 1) = a / 2 ^ i / 2 := by rw [Nat.pow_succ, ← Nat.div_div_eq_div_mul]
theorem gcd_strip {a b : Nat} (h : Nat.gcd a b % 2 = 1) : ∀ i, (∀ k, k < i → a / 2 ^ k % 2 = 0) → Nat.gcd (a / 2 ^ i) b = Nat.gcd a b
  | 0, _ => by rw [Nat.pow_zero, Nat.div_one]
  | i + 1, hk => by
    have ih := gcd_strip h i fun k hki => hk k (by omega)
    have e : a / 2 ^ i = 2 * (a / 2 ^ (i + 1)) := by rw [half_step]; have := hk i (by omega); omega
    rw [e] at ih
    rw [← ih]
    exact gcd_half (by rw [ih]; exact h)
theorem gcd_oddp {a b : Nat} (ha : 0 < a) (h : Nat.gcd a b % 2 = 1) : Nat.gcd (oddp a) b = Nat.gcd a b := gcd_strip h _ fun _ hk => tz_even ha hk
structure GS where
  sw : Bool
  a : Nat
  b : Nat
noncomputable def GS.next (s : GS) : GS := if oddp s.a < oddp s.b then ⟨!s.sw, oddp s.b - oddp s.a, oddp s.a⟩ else ⟨s.sw, oddp s.a - oddp s.b, oddp s.b⟩
theorem GS.next_gcd {s : GS} (ha : 0 < s.a) (hb : 0 < s.b) (h : Nat.gcd s.a s.b % 2 = 1) : Nat.gcd s.next.a s.next.b = Nat.gcd s.a s.b ∧ 0 < s.next.b ∧ s.next.a + s.next.b < s.a + s.b := by
  have e1 := gcd_oddp ha h
  have e2 : Nat.gcd (oddp s.a) (oddp s.b) = Nat.gcd s.a s.b := by
    rw [← e1, Nat.gcd_comm (oddp s.a) s.b, ← gcd_oddp hb (by rw [Nat.gcd_comm, e1]; exact h), Nat.gcd_comm]
  have p1 := oddp_pos ha
  have p2 := oddp_pos hb
  have l1 := oddp_le s.a
  have l2 := oddp_le s.b
  unfold GS.next
  split
  · rename_i hlt
    refine ⟨?_, p1, ?_⟩
    · show Nat.gcd (oddp s.b - oddp s.a) (oddp s.a) = _
      rw [gcd_less (Nat.le_of_lt hlt), Nat.gcd_comm, e2]
    · show oddp s.b - oddp s.a + oddp s.a < _; omega
  · rename_i hlt
    refine ⟨?_, p2, ?_⟩
    · show Nat.gcd (oddp s.a - oddp s.b) (oddp s.b) = _
      rw [gcd_less (by omega), e2]
    · show oddp s.a - oddp s.b + oddp s.b < _; omega
noncomputable def GS.nth (s : GS) : Nat → GS
  | 0 => s
  | i + 1 => (s.nth i).next
/-- Where each number lies, and how far it reaches. -/
def GS.fits (N0 N1 : Nat) (s : GS) : Prop := (words (cond s.sw s.b s.a)).length ≤ N0 ∧ (words (cond s.sw s.a s.b)).length ≤ N1
theorem GS.next_fits {N0 N1 : Nat} {s : GS} (h : s.fits N0 N1) : s.next.fits N0 N1 := by
  have l1 := len_mono (oddp_le s.a)
  have l2 := len_mono (oddp_le s.b)
  have l3 := len_mono (Nat.sub_le (oddp s.a) (oddp s.b))
  have l4 := len_mono (Nat.sub_le (oddp s.b) (oddp s.a))
  obtain ⟨sw, a, b⟩ := s
  unfold GS.fits GS.next at *
  simp only at l1 l2 l3 l4
  by_cases hlt : oddp a < oddp b
  · simp only [if_pos hlt]
    cases sw <;> simp only [cond, Bool.not_false, Bool.not_true] at h ⊢ <;> omega
  · simp only [if_neg hlt]
    cases sw <;> simp only [cond] at h ⊢ <;> omega
theorem GS.run {s : GS} (hb : 0 < s.b) (h : Nat.gcd s.a s.b % 2 = 1) (i : Nat) (hi : ∀ t, t < i → 0 < (s.nth t).a) : 0 < (s.nth i).b ∧ Nat.gcd (s.nth i).a (s.nth i).b = Nat.gcd s.a s.b ∧ (s.nth i).a + (s.nth i).b + i ≤ s.a + s.b := by
  induction i with
  | zero => exact ⟨hb, rfl, Nat.le_refl _⟩
  | succ i ih =>
    obtain ⟨q1, q2, q3⟩ := ih fun t ht => hi t (by omega)
    obtain ⟨n1, n2, n3⟩ := GS.next_gcd (hi i (by omega)) q1 (by rw [q2]; exact h)
    exact ⟨n2, by show Nat.gcd (s.nth i).next.a (s.nth i).next.b = _; rw [n1, q2], by show (s.nth i).next.a + (s.nth i).next.b + (i + 1) ≤ _; omega⟩
theorem GS.stops {s : GS} (hb : 0 < s.b) (h : Nat.gcd s.a s.b % 2 = 1) : ∃ T, (∀ t, t < T → 0 < (s.nth t).a) ∧ (s.nth T).a = 0 := by
  by_cases hall : ∀ t, t < s.a + s.b + 1 → 0 < (s.nth t).a
  · have := (GS.run hb h _ hall).2.2; omega
  · have : ∃ n, ¬ 0 < (s.nth n).a := Classical.byContradiction fun hc => hall fun t _ => Classical.byContradiction fun hp => hc ⟨t, hp⟩
    obtain ⟨n, hn⟩ := this
    obtain ⟨T, h1, h2⟩ := first_fail (P := fun t => 0 < (s.nth t).a) n hn
    exact ⟨T, h1, by omega⟩

/-! ### Cells and rows -/
def blk2 (p : Bool) (c o : List D) : List (Nat × List D) := [(0, cond p o c), (1, cond p c o)]
def dcel (N x : Nat) : List D := (digs N x).map u32
theorem dcel_len (N x : Nat) : (dcel N x).length = N := by unfold dcel; rw [List.length_map, digs_len]
theorem dcel_cel (N x : Nat) : cel N (fun j => x / BP j % 4294967296) = dcel N x := cel_digs N x
theorem dcel_row {N x : Nat} (h : (words x).length ≤ N) : D.row (words x).length false ((dcel N x).take ((words x).length * 1)) = rowW (words x) := by
  unfold rowW dcel
  rw [Nat.mul_one, ← List.map_take, digs_take h, ← words_digs_self]
theorem dcel_get {N x k : Nat} (h : k < N) : ((dcel N x).drop k).headD .any = u32 (x / BP k % 4294967296) := by rw [← dcel_cel]; exact cel_getD h
theorem at_part (hG : Steady G) {N n i : Nat} {f : Nat → Nat} (hf : ∀ j, f j < 4294967296) (hn : n ≤ N) :
    Spec Tryz.prog G 291 [.row n false ((cel N f).take (n * 1)), nat i] (u64 (if i < n then f i else 0)) := by
  have h := at_spec (G := G) hG ((List.range n).map f) (fun x hx => by simp only [List.mem_map] at hx; obtain ⟨j, -, rfl⟩ := hx; exact hf j) i
  have e : rowW ((List.range n).map f) = .row n false ((cel N f).take (n * 1)) := by
    unfold rowW cel
    rw [Nat.mul_one, ← List.map_take, List.take_range, Nat.min_eq_left hn]
    simp
  have e2 : ((List.range n).map f).getD i 0 = if i < n then f i else 0 := by
    by_cases hi : i < n
    · simp [List.getD_eq_getElem?_getD, hi]
    · simp [List.getD_eq_getElem?_getD, hi]
  rw [e, e2] at h
  exact h

/-! ### cut -/
def cutInv (p : Bool) (N y : Nat) (o : List D) (k : Nat) : St := lay 21 [(0, .gsl (cond p 1 0) k 1)] (blk2 p (dcel N y) o)
theorem cut_round (hG : Steady G) {p : Bool} {N y k : Nat} {o : List D} (hk : k < N) (hN : N < 2 ^ 40) (hw : (words y).length ≤ k) :
    Goes Tryz.prog G 2 (loopOf Tryz.f229 0) (cutInv p N y o (k + 1)) .normal (cutInv p N y o k) := by
  have h40 : (2:Nat) ^ 40 = 1099511627776 := by decide
  have h60 : (2:Nat) ^ 60 = 1152921504606846976 := by decide
  have hz : y / BP k % 4294967296 = 0 := by rw [Nat.div_eq_of_lt ((len_le_iff y k).1 hw)]
  have e1 : IntKind.wrap .i64 (Int.ofNat (k + 1) - 1) = Int.ofNat k := nat_pred (i := k + 1) (by omega) (by omega)
  have g1 : decide (Int.ofNat (k + 1) > 0) = true := by simp only [Int.ofNat_eq_natCast, decide_eq_true_eq]; omega
  have n1 : (0:Int) ≤ Int.ofNat k ∧ Int.ofNat k < ((k + 1 : Nat) : Int) := by simp only [Int.ofNat_eq_natCast]; omega
  have n2 : 0 < 1 ∧ k + 1 ≤ (dcel N y).length := by rw [dcel_len]; omega
  have n3 : (0:Int) ≤ Int.ofNat k ∧ Int.ofNat k ≤ ((k + 1 : Nat) : Int) := by simp only [Int.ofNat_eq_natCast]; omega
  have p1 : D.ptr (cond p 1 0) ((Int.ofNat k).toNat * 1) = .ptr (cond p 1 0) k := by simp
  have e13 : (Int.ofNat (y / BP k % 4294967296) == 0) = true := by rw [hz]; rfl
  cases p <;> exact Goes.of_run hG (ro := []) (m := 30) (lay_len ..)
    [.eq 5 (eqB g1), .eq 10 (eqS e1), .prop n1, .eq 11 p1, .prop n2, .eq 12 (dcel_get (N := N) (x := y) hk), .eq 13 (eqB e13), .eq 18 (eqS e1), .prop n3] (by kernel_rfl)
theorem cut_last (hG : Steady G) {p : Bool} {N y : Nat} {o : List D} (hk : (words y).length ≤ N) (hN : N < 2 ^ 40) :
    Goes Tryz.prog G 2 (loopOf Tryz.f229 0) (cutInv p N y o (words y).length) (.exit 0) (cutInv p N y o (words y).length) := by
  have h40 : (2:Nat) ^ 40 = 1099511627776 := by decide
  have h60 : (2:Nat) ^ 60 = 1152921504606846976 := by decide
  rcases Nat.eq_zero_or_pos y with h | h
  · subst h
    have g1 : decide (Int.ofNat (words 0).length > 0) = false := rfl
    cases p <;> exact Goes.of_run hG (ro := []) (m := 30) (lay_len ..) [.eq 5 (eqB g1)] (by kernel_rfl)
  · have hp := words_len_pos (n := y) (by omega)
    have hz := words_last (n := y) (by omega)
    rw [words_getD] at hz
    have g1 : decide (Int.ofNat (words y).length > 0) = true := by simp only [Int.ofNat_eq_natCast, decide_eq_true_eq]; omega
    have e1 : IntKind.wrap .i64 (Int.ofNat (words y).length - 1) = Int.ofNat ((words y).length - 1) := nat_pred (i := (words y).length) (by omega) hp
    have n1 : (0:Int) ≤ Int.ofNat ((words y).length - 1) ∧ Int.ofNat ((words y).length - 1) < ((words y).length : Int) := by simp only [Int.ofNat_eq_natCast]; omega
    have n2 : 0 < 1 ∧ (words y).length - 1 + 1 ≤ (dcel N y).length := by rw [dcel_len]; omega
    have p1 : D.ptr (cond p 1 0) ((Int.ofNat ((words y).length - 1)).toNat * 1) = .ptr (cond p 1 0) ((words y).length - 1) := by simp
    have e13 : (Int.ofNat (y / BP ((words y).length - 1) % 4294967296) == 0) = false := by rw [beq_eq_false_iff_ne]; simp only [Int.ofNat_eq_natCast]; omega
    have c1 := dcel_get (N := N) (x := y) (k := (words y).length - 1) (by omega)
    cases p <;> exact Goes.of_run hG (ro := []) (m := 30) (lay_len ..)
      [.eq 5 (eqB g1), .eq 10 (eqS e1), .prop n1, .eq 11 p1, .prop n2, .eq 12 c1, .eq 13 (eqB e13)] (by kernel_rfl)
theorem cut_loop (hG : Steady G) (p : Bool) {N y n : Nat} (o : List D) (hn : n ≤ N) (hN : N < 2 ^ 40) (hw : (words y).length ≤ n) :
    Abs Tryz.prog G 21 2 (.loop (loopOf Tryz.f229 0)) (lay 21 [(0, .gsl (cond p 1 0) n 1)] (blk2 p (dcel N y) o)) (.exit 0) (cutInv p N y o (words y).length) := by
  refine Abs.rounds (fun k : Nat => k ≤ N ∧ (words y).length ≤ k) (cutInv p N y o) (fun k => k) (fun m => lay_len _ _ _) (by simp) (fun k hk => ?_) n ⟨hn, hw⟩
  obtain ⟨h1, h2⟩ := hk
  rcases Nat.eq_or_lt_of_le h2 with h | h
  · right; subst h; exact cut_last hG h1 hN
  · left
    obtain ⟨k', rfl⟩ : ∃ k', k = k' + 1 := ⟨k - 1, by omega⟩
    exact ⟨k', ⟨by omega, by omega⟩, by omega, cut_round hG (by omega) hN (by omega)⟩
end Lw

namespace Lw
open Go Go.RowKit Go.Proofs

variable {G : World → Prop}

/-! ### halve -/
def halF (x i j : Nat) : Nat := if j < i then x / 2 / BP j % 4294967296 else x / BP j % 4294967296
theorem halF_lt (x i j : Nat) : halF x i j < 4294967296 := by unfold halF; split <;> exact Nat.mod_lt _ (by omega)
theorem halF_zero (N x : Nat) : cel N (halF x 0) = dcel N x := by
  rw [← dcel_cel]; exact cel_congr fun j _ => by unfold halF; rw [if_neg (by omega)]
theorem halF_end {N x : Nat} : cel N (halF x (words x).length) = dcel N (x / 2) := by
  rw [← dcel_cel]
  refine cel_congr fun j _ => ?_
  unfold halF
  split
  · rfl
  · rename_i h
    have h1 : x < BP j := (len_le_iff x j).1 (by omega)
    rw [Nat.div_eq_of_lt h1, Nat.div_eq_of_lt (Nat.lt_of_le_of_lt (Nat.div_le_self _ _) h1)]
theorem halF_next {N x t : Nat} (h : t < N) : splice (cel N (halF x t)) t [u32 (x / 2 / BP t % 4294967296)] = cel N (halF x (t + 1)) := by
  rw [splice_cel _ _ h]
  refine cel_congr fun j _ => ?_
  unfold halF
  by_cases hj : j = t
  · subst hj; rw [if_pos rfl, if_pos (by omega)]
  · rw [if_neg hj]
    by_cases h2 : j < t
    · rw [if_pos h2, if_pos (by omega)]
    · rw [if_neg h2, if_neg (by omega)]
theorem hal_dig (x i : Nat) : (x / BP i % 4294967296 / 2 + x / BP (i + 1) % 4294967296 * 2147483648) % 4294967296 = x / 2 / BP i % 4294967296 := by
  rw [BP_succ, Nat.mul_comm 4294967296, ← Nat.div_div_eq_div_mul, Nat.div_div_eq_div_mul x 2, Nat.mul_comm 2, ← Nat.div_div_eq_div_mul]
  generalize x / BP i = q
  omega
def halInv (p : Bool) (N x : Nat) (o : List D) (i : Nat) : St :=
  lay 26 [(0, .gsl (cond p 1 0) (words x).length 1), (5, nat (words x).length), (6, nat i)] (blk2 p (cel N (halF x i)) o)
theorem shr1_u64 (x : Nat) : (Int.ofNat x).fdiv (2 ^ min (Int.toNat 1) (IntKind.bits .u64)) = Int.ofNat (x / 2) := shr_n (x := x) (n := 1) (by omega)
theorem shl31_u64 {x : Nat} (h : x < 4294967296) : IntKind.wrap .u64 (Int.ofNat x * 2 ^ min (Int.toNat 31) (IntKind.bits .u64)) = Int.ofNat (x * 2147483648) := by
  rw [show (2:Int) ^ min (Int.toNat 31) (IntKind.bits .u64) = Int.ofNat 2147483648 by decide]
  exact wrap_mul (by omega)
theorem hal_round (hG : Steady G) {p : Bool} {N x i : Nat} {o : List D} (hn : (words x).length ≤ N) (hN : N < 2 ^ 40) (hi : i < (words x).length) :
    Goes Tryz.prog G 2 (loopOf Tryz.f226 0) (halInv p N x o i) .normal (halInv p N x o (i + 1)) := by
  have h40 : (2:Nat) ^ 40 = 1099511627776 := by decide
  have h60 : (2:Nat) ^ 60 = 1152921504606846976 := by decide
  have a1 := at_part (G := G) hG (N := N) (n := (words x).length) (i := i) (halF_lt x i) hn
  have a2 := at_part (G := G) hG (N := N) (n := (words x).length) (i := i + 1) (halF_lt x i) hn
  have f1 : (if i < (words x).length then halF x i i else 0) = x / BP i % 4294967296 := by rw [if_pos hi]; unfold halF; rw [if_neg (by omega)]
  have f2 : (if i + 1 < (words x).length then halF x i (i + 1) else 0) = x / BP (i + 1) % 4294967296 := by
    split
    · unfold halF; rw [if_neg (by omega)]
    · rw [Nat.div_eq_of_lt ((len_le_iff x (i + 1)).1 (by omega))]
  rw [f1] at a1
  rw [f2] at a2
  have hw : x / BP i % 4294967296 < 4294967296 := Nat.mod_lt _ (by omega)
  have hw2 : x / BP (i + 1) % 4294967296 < 4294967296 := Nat.mod_lt _ (by omega)
  have hor : IntKind.wrap .u64 (((BitVec.ofInt (IntKind.bits .u64) (Int.ofNat (x / BP i % 4294967296 / 2)) ||| BitVec.ofInt (IntKind.bits .u64) (Int.ofNat (x / BP (i + 1) % 4294967296 * 2147483648))).toNat : Nat) : Int)
      = Int.ofNat (x / BP i % 4294967296 / 2 + x / BP (i + 1) % 4294967296 * 2147483648) := by
    rw [or_bits (by omega) (by omega)]
    have := or_low (n := 31) (x := x / BP (i + 1) % 4294967296) (y := x / BP i % 4294967296 / 2) (by rw [show (2:Nat) ^ 31 = 2147483648 by decide]; omega)
    rw [show (2:Nat) ^ 31 = 2147483648 by decide] at this
    rw [this]
  have hcv : IntKind.wrap .u32 (Int.ofNat (x / BP i % 4294967296 / 2 + x / BP (i + 1) % 4294967296 * 2147483648)) = Int.ofNat (x / 2 / BP i % 4294967296) := by rw [conv32, hal_dig]
  have n1 : (0:Int) ≤ Int.ofNat i ∧ Int.ofNat i < ((words x).length : Int) := ix_need hi
  have p1 : D.ptr (cond p 1 0) ((Int.ofNat i).toNat * 1) = .ptr (cond p 1 0) i := by simp
  have n2 : i + 1 ≤ (cel N (halF x i)).length := by rw [cel_len]; omega
  have s1 : IntKind.wrap .i64 (Int.ofNat i + 1) = Int.ofNat (i + 1) := nat_succ (by omega)
  have e : halInv p N x o (i + 1) = lay 26 [(0, .gsl (cond p 1 0) (words x).length 1), (5, nat (words x).length), (6, nat (i + 1))] (blk2 p (splice (cel N (halF x i)) i [u32 (x / 2 / BP i % 4294967296)]) o) := by
    rw [halF_next (by omega)]; rfl
  rw [e]; clear e
  cases p <;> exact Goes.of_run hG (ro := []) (m := 30) (lay_len ..)
    [.eq 7 (eqB (lt_true hi)), .call a1, .eq 14 (eq64 (shr1_u64 (x / BP i % 4294967296))), .eq 17 (eqS s1), .call a2, .eq 19 (eq64 (shl31_u64 hw2)), .eq 20 (eq64 hor), .eq 21 (eq32 hcv),
     .prop n1, .eq 22 p1, .prop n2, .eq 23 (eqS s1)] (by kernel_rfl)
theorem hal_last (hG : Steady G) {p : Bool} {N x : Nat} {o : List D} :
    Goes Tryz.prog G 2 (loopOf Tryz.f226 0) (halInv p N x o (words x).length) (.exit 0) (halInv p N x o (words x).length) := by
  cases p <;> exact Goes.of_run hG (ro := []) (m := 30) (lay_len ..) [.eq 7 (eqB (lt_false (Nat.le_refl (words x).length)))] (by kernel_rfl)
theorem hal_loop (hG : Steady G) (p : Bool) {N x : Nat} (o : List D) (hn : (words x).length ≤ N) (hN : N < 2 ^ 40) :
    Abs Tryz.prog G 26 2 (.loop (loopOf Tryz.f226 0)) (lay 26 [(0, .gsl (cond p 1 0) (words x).length 1), (5, nat (words x).length), (6, nat 0)] (blk2 p (dcel N x) o)) (.exit 0)
      (lay 26 [(0, .gsl (cond p 1 0) (words x).length 1), (5, nat (words x).length), (6, nat (words x).length)] (blk2 p (dcel N (x / 2)) o)) := by
  have h := Abs.count (halInv p N x o) (words x).length (fun k => lay_len _ _ _) (by simp) (fun i hi => hal_round hG hn hN hi) (hal_last hG)
  unfold halInv at h
  rw [halF_zero, halF_end] at h
  exact h

/-! ### take -/
def tkInv (p : Bool) (Na Nb X Y t : Nat) : St :=
  lay 31 [(0, .gsl (cond p 1 0) (words X).length 1), (1, .gsl (cond p 0 1) (words Y).length 1), (4, u64 (cSub X Y t)), (8, nat (words X).length), (9, nat t)] (blk2 p (cel Na (takF X Y t)) (dcel Nb Y))
theorem tk_round (hG : Steady G) {p : Bool} {Na Nb X Y t : Nat} (ha : (words X).length ≤ Na) (hb : (words Y).length ≤ Nb) (hle : Y ≤ X) (hN : Na < 2 ^ 40) (ht : t < (words X).length) :
    Goes Tryz.prog G 2 (loopOf Tryz.f228 0) (tkInv p Na Nb X Y t) .normal (tkInv p Na Nb X Y (t + 1)) := by
  have h40 : (2:Nat) ^ 40 = 1099511627776 := by decide
  have h60 : (2:Nat) ^ 60 = 1152921504606846976 := by decide
  have hd := brw_dig (i := t) hle
  have hn := brw_next (a := X) (b := Y) (i := t)
  have h1 : X / BP t % 4294967296 < 4294967296 := Nat.mod_lt _ (by omega)
  have h2 : Y / BP t % 4294967296 < 4294967296 := Nat.mod_lt _ (by omega)
  have h3 := cSub_le X Y t
  have a1 := at_part (G := G) hG (N := Na) (n := (words X).length) (i := t) (takF_lt X Y t) ha
  have f1 : (if t < (words X).length then takF X Y t t else 0) = X / BP t % 4294967296 := by rw [if_pos ht]; unfold takF; rw [if_neg (by omega)]
  rw [f1] at a1
  have a2 := at_spec (G := G) hG (words Y) (dig_words _) t
  rw [words_getD, ← dcel_row hb] at a2
  have hq := brw_one (x := X / BP t % 4294967296) (y := Y / BP t % 4294967296) (c := cSub X Y t) h1
  have e32 : IntKind.wrap .u32 (Int.ofNat (brw (X / BP t % 4294967296) (Y / BP t % 4294967296) (cSub X Y t))) = Int.ofNat ((X - Y) / BP t % 4294967296) := by rw [conv32, hd]
  have eb : IntKind.wrap .u64 (1 - Int.ofNat (brw (X / BP t % 4294967296) (Y / BP t % 4294967296) (cSub X Y t) / 4294967296)) = Int.ofNat (cSub X Y (t + 1)) := by rw [one_less hq, hn]
  have e21 : IntKind.wrap .u64 (Int.ofNat (4294967296 + X / BP t % 4294967296 - Y / BP t % 4294967296) - Int.ofNat (cSub X Y t)) = Int.ofNat (brw (X / BP t % 4294967296) (Y / BP t % 4294967296) (cSub X Y t)) := wrap_less (by omega) (by omega)
  have e19 : IntKind.wrap .u64 (Int.ofNat (4294967296 + X / BP t % 4294967296) - Int.ofNat (Y / BP t % 4294967296)) = Int.ofNat (4294967296 + X / BP t % 4294967296 - Y / BP t % 4294967296) := wrap_less (by omega) (by omega)
  have n1 : (0:Int) ≤ Int.ofNat t ∧ Int.ofNat t < ((words X).length : Int) := ix_need ht
  have p1 : D.ptr (cond p 1 0) ((Int.ofNat t).toNat * 1) = .ptr (cond p 1 0) t := by simp
  have n2 : t + 1 ≤ (cel Na (takF X Y t)).length := by rw [cel_len]; omega
  have s1 : IntKind.wrap .i64 (Int.ofNat t + 1) = Int.ofNat (t + 1) := nat_succ (by omega)
  have e : tkInv p Na Nb X Y (t + 1) = lay 31 [(0, .gsl (cond p 1 0) (words X).length 1), (1, .gsl (cond p 0 1) (words Y).length 1), (4, u64 (cSub X Y (t + 1))), (8, nat (words X).length), (9, nat (t + 1))]
      (blk2 p (splice (cel Na (takF X Y t)) t [u32 ((X - Y) / BP t % 4294967296)]) (dcel Nb Y)) := by
    rw [takF_next (by omega)]; rfl
  rw [e]; clear e
  cases p <;> exact Goes.of_run hG (ro := []) (m := 30) (lay_len ..)
    [.eq 10 (eqB (lt_true ht)), .call a1, .eq 15 (eq64 (add32 h1)), .call a2, .eq 19 (eq64 e19), .eq 21 (eq64 e21), .eq 25 (eq32 e32), .eq 27 (eq64 (shr32 (brw (X / BP t % 4294967296) (Y / BP t % 4294967296) (cSub X Y t)))), .eq 28 (eq64 eb),
     .prop n1, .eq 29 p1, .prop n2, .eq 30 (eqS s1)] (by kernel_rfl)
theorem tk_last (hG : Steady G) {p : Bool} {Na Nb X Y : Nat} :
    Goes Tryz.prog G 2 (loopOf Tryz.f228 0) (tkInv p Na Nb X Y (words X).length) (.exit 0) (tkInv p Na Nb X Y (words X).length) := by
  cases p <;> exact Goes.of_run hG (ro := []) (m := 30) (lay_len ..) [.eq 10 (eqB (lt_false (Nat.le_refl (words X).length)))] (by kernel_rfl)
theorem takF_stop {N X Y : Nat} : cel N (takF X Y (words X).length) = dcel N (X - Y) := by
  rw [← dcel_cel]
  refine cel_congr fun j _ => ?_
  unfold takF
  split
  · rfl
  · rename_i h
    have h1 : X < BP j := (len_le_iff X j).1 (by omega)
    rw [Nat.div_eq_of_lt h1, Nat.div_eq_of_lt (Nat.lt_of_le_of_lt (Nat.sub_le _ _) h1)]
theorem tk_loop (hG : Steady G) (p : Bool) {Na Nb X Y : Nat} (ha : (words X).length ≤ Na) (hb : (words Y).length ≤ Nb) (hle : Y ≤ X) (hN : Na < 2 ^ 40) :
    Abs Tryz.prog G 31 2 (.loop (loopOf Tryz.f228 0))
      (lay 31 [(0, .gsl (cond p 1 0) (words X).length 1), (1, .gsl (cond p 0 1) (words Y).length 1), (4, u64 0), (8, nat (words X).length), (9, nat 0)] (blk2 p (dcel Na X) (dcel Nb Y))) (.exit 0)
      (lay 31 [(0, .gsl (cond p 1 0) (words X).length 1), (1, .gsl (cond p 0 1) (words Y).length 1), (4, u64 (cSub X Y (words X).length)), (8, nat (words X).length), (9, nat (words X).length)] (blk2 p (dcel Na (X - Y)) (dcel Nb Y))) := by
  have h := Abs.count (tkInv p Na Nb X Y) (words X).length (fun k => lay_len _ _ _) (by simp) (fun i hi => tk_round hG ha hb hle hN hi) (tk_last hG)
  unfold tkInv at h
  rw [takF_stop, takF_zero, dcel_cel, cSub_zero] at h
  exact h
end Lw

namespace Lw
open Go Go.RowKit Go.Proofs

variable {G : World → Prop}

def gst (N0 N1 tw : Nat) (s : GS) : St :=
  lay 72 [(0, .gsl (cond s.sw 1 0) (words s.a).length 1), (1, .gsl (cond s.sw 0 1) (words s.b).length 1), (5, nat tw)] (blk2 s.sw (dcel (cond s.sw N1 N0) s.a) (dcel (cond s.sw N0 N1) s.b))
theorem zero_ix {a : Nat} (h : 0 < a) : (0:Int) ≤ 0 ∧ (0:Int) < ((words a).length : Int) := by
  have := words_len_pos (n := a) (by omega); omega
theorem zero_load {N a : Nat} (h : 0 < a) (hn : (words a).length ≤ N) : 0 < 1 ∧ 0 + 1 ≤ (dcel N a).length := by
  have := words_len_pos (n := a) (by omega)
  rw [dcel_len]; omega
theorem zero_get {N a : Nat} (h : 0 < a) (hn : (words a).length ≤ N) : ((dcel N a).drop 0).headD .any = u32 (a / BP 0 % 4294967296) := dcel_get (by have := words_len_pos (n := a) (by omega); omega)
theorem zero_and (a : Nat) : IntKind.wrap .u32 (((BitVec.ofInt (IntKind.bits .u32) (Int.ofNat (a / BP 0 % 4294967296)) &&& BitVec.ofInt (IntKind.bits .u32) 1).toNat : Nat) : Int) = Int.ofNat (a % 2) := by
  rw [and_one (Nat.mod_lt _ (by omega)), BP_zero, Nat.div_one]
  congr 1
  omega
theorem even_true {a : Nat} (h : a % 2 = 0) : (Int.ofNat (a % 2) == 0) = true := by rw [h]; rfl
theorem even_false {a : Nat} (h : ¬ a % 2 = 0) : (Int.ofNat (a % 2) == 0) = false := by rw [beq_eq_false_iff_ne]; simp only [Int.ofNat_eq_natCast]; omega
theorem len_half (a : Nat) : (words (a / 2)).length ≤ (words a).length := len_mono (Nat.div_le_self _ _)

/-! ### Twos taken from one number -/
theorem sa_round (hG : Steady G) {N0 N1 tw : Nat} {sw : Bool} {a b : Nat} (ha : 0 < a) (he : a % 2 = 0) (hn : (words a).length ≤ cond sw N1 N0) (h0 : N0 < 2 ^ 40) (h1 : N1 < 2 ^ 40) :
    Goes Tryz.prog G 0 (loopOf Tryz.f167 2) (gst N0 N1 tw ⟨sw, a, b⟩) .normal (gst N0 N1 tw ⟨sw, a / 2, b⟩) := by
  cases sw
  · exact Goes.of_run hG (ro := []) (m := 40) (lay_len ..)
      [.prop (zero_ix ha), .prop (zero_load ha hn), .eq 41 (zero_get ha hn), .eq 42 (eq32 (zero_and a)), .eq 43 (eqB (even_true he)),
       .inl [] Tryz.func226, .code (hal_loop hG false (x := a) (dcel N1 b) hn h0), .inl [] Tryz.func229, .code (cut_loop hG false (y := a / 2) (dcel N1 b) hn h0 (len_half a))] (by kernel_rfl)
  · exact Goes.of_run hG (ro := []) (m := 40) (lay_len ..)
      [.prop (zero_ix ha), .prop (zero_load ha hn), .eq 41 (zero_get ha hn), .eq 42 (eq32 (zero_and a)), .eq 43 (eqB (even_true he)),
       .inl [] Tryz.func226, .code (hal_loop hG true (x := a) (dcel N0 b) hn h1), .inl [] Tryz.func229, .code (cut_loop hG true (y := a / 2) (dcel N0 b) hn h1 (len_half a))] (by kernel_rfl)
theorem sa_last (hG : Steady G) {N0 N1 tw : Nat} {sw : Bool} {a b : Nat} (ha : 0 < a) (he : ¬ a % 2 = 0) (hn : (words a).length ≤ cond sw N1 N0) :
    Goes Tryz.prog G 0 (loopOf Tryz.f167 2) (gst N0 N1 tw ⟨sw, a, b⟩) (.exit 4) (gst N0 N1 tw ⟨sw, a, b⟩) := by
  cases sw <;> exact Goes.of_run hG (ro := []) (m := 40) (lay_len ..)
    [.prop (zero_ix ha), .prop (zero_load ha hn), .eq 41 (zero_get ha hn), .eq 42 (eq32 (zero_and a)), .eq 43 (eqB (even_false he))] (by kernel_rfl)
theorem pow_pos_of {a i : Nat} (ha : 0 < a) (h : ∀ k, k < i → a / 2 ^ k % 2 = 0) : 0 < a / 2 ^ i := by
  induction i with
  | zero => rw [Nat.pow_zero, Nat.div_one]; exact ha
  | succ i ih =>
    have h1 := ih fun k hk => h k (by omega)
    have h2 := h i (by omega)
    rw [half_step]; omega
theorem sa_loop (hG : Steady G) {N0 N1 tw : Nat} {sw : Bool} {a b : Nat} (ha : 0 < a) (hn : (words a).length ≤ cond sw N1 N0) (h0 : N0 < 2 ^ 40) (h1 : N1 < 2 ^ 40) :
    Abs Tryz.prog G 72 0 (.loop (loopOf Tryz.f167 2)) (gst N0 N1 tw ⟨sw, a, b⟩) (.exit 4) (gst N0 N1 tw ⟨sw, oddp a, b⟩) := by
  have hlen : ∀ i, (words (a / 2 ^ i)).length ≤ cond sw N1 N0 := fun i => Nat.le_trans (len_mono (Nat.div_le_self _ _)) hn
  have h := Abs.count (P := Tryz.prog) (Good := G) (gb := 0) (body := loopOf Tryz.f167 2) (e := .exit 4) (s' := gst N0 N1 tw ⟨sw, a / 2 ^ tz a, b⟩) (fun i => gst N0 N1 tw ⟨sw, a / 2 ^ i, b⟩) (tz a) (fun i => lay_len _ _ _) (by simp)
    (fun i hi => by
      have := sa_round (G := G) hG (tw := tw) (sw := sw) (b := b) (pow_pos_of ha fun k hk => tz_even ha (by omega)) (tz_even ha hi) (hlen i) h0 h1
      rwa [← half_step] at this)
    (sa_last hG (pow_pos_of ha fun k hk => tz_even ha hk) (by have := tz_odd ha; omega) (hlen _))
  simp only [Nat.pow_zero, Nat.div_one] at h
  exact h
theorem sb_round (hG : Steady G) {N0 N1 tw : Nat} {sw : Bool} {a b : Nat} (hb : 0 < b) (he : b % 2 = 0) (hn : (words b).length ≤ cond sw N0 N1) (h0 : N0 < 2 ^ 40) (h1 : N1 < 2 ^ 40) :
    Goes Tryz.prog G 0 (loopOf Tryz.f167 3) (gst N0 N1 tw ⟨sw, a, b⟩) .normal (gst N0 N1 tw ⟨sw, a, b / 2⟩) := by
  cases sw
  · exact Goes.of_run hG (ro := []) (m := 40) (lay_len ..)
      [.prop (zero_ix hb), .prop (zero_load hb hn), .eq 48 (zero_get hb hn), .eq 49 (eq32 (zero_and b)), .eq 50 (eqB (even_true he)),
       .inl [] Tryz.func226, .code (hal_loop hG true (x := b) (dcel N0 a) hn h1), .inl [] Tryz.func229, .code (cut_loop hG true (y := b / 2) (dcel N0 a) hn h1 (len_half b))] (by kernel_rfl)
  · exact Goes.of_run hG (ro := []) (m := 40) (lay_len ..)
      [.prop (zero_ix hb), .prop (zero_load hb hn), .eq 48 (zero_get hb hn), .eq 49 (eq32 (zero_and b)), .eq 50 (eqB (even_true he)),
       .inl [] Tryz.func226, .code (hal_loop hG false (x := b) (dcel N1 a) hn h0), .inl [] Tryz.func229, .code (cut_loop hG false (y := b / 2) (dcel N1 a) hn h0 (len_half b))] (by kernel_rfl)
theorem sb_last (hG : Steady G) {N0 N1 tw : Nat} {sw : Bool} {a b : Nat} (hb : 0 < b) (he : ¬ b % 2 = 0) (hn : (words b).length ≤ cond sw N0 N1) :
    Goes Tryz.prog G 0 (loopOf Tryz.f167 3) (gst N0 N1 tw ⟨sw, a, b⟩) (.exit 6) (gst N0 N1 tw ⟨sw, a, b⟩) := by
  cases sw <;> exact Goes.of_run hG (ro := []) (m := 40) (lay_len ..)
    [.prop (zero_ix hb), .prop (zero_load hb hn), .eq 48 (zero_get hb hn), .eq 49 (eq32 (zero_and b)), .eq 50 (eqB (even_false he))] (by kernel_rfl)
theorem sb_loop (hG : Steady G) {N0 N1 tw : Nat} {sw : Bool} {a b : Nat} (hb : 0 < b) (hn : (words b).length ≤ cond sw N0 N1) (h0 : N0 < 2 ^ 40) (h1 : N1 < 2 ^ 40) :
    Abs Tryz.prog G 72 0 (.loop (loopOf Tryz.f167 3)) (gst N0 N1 tw ⟨sw, a, b⟩) (.exit 6) (gst N0 N1 tw ⟨sw, a, oddp b⟩) := by
  have hlen : ∀ i, (words (b / 2 ^ i)).length ≤ cond sw N0 N1 := fun i => Nat.le_trans (len_mono (Nat.div_le_self _ _)) hn
  have h := Abs.count (P := Tryz.prog) (Good := G) (gb := 0) (body := loopOf Tryz.f167 3) (e := .exit 6) (s' := gst N0 N1 tw ⟨sw, a, b / 2 ^ tz b⟩) (fun i => gst N0 N1 tw ⟨sw, a, b / 2 ^ i⟩) (tz b) (fun i => lay_len _ _ _) (by simp)
    (fun i hi => by
      have := sb_round (G := G) hG (tw := tw) (sw := sw) (a := a) (pow_pos_of hb fun k hk => tz_even hb (by omega)) (tz_even hb hi) (hlen i) h0 h1
      rwa [← half_step] at this)
    (sb_last hG (pow_pos_of hb fun k hk => tz_even hb hk) (by have := tz_odd hb; omega) (hlen _))
  simp only [Nat.pow_zero, Nat.div_one] at h
  exact h

/-! ### The rounds of subtracting -/
theorem cmp_neg_true {a b : Nat} (h : a < b) : decide (cmpI a b < 0) = true := by unfold cmpI; rw [if_pos h]; rfl
theorem cmp_neg_false {a b : Nat} (h : ¬ a < b) : decide (cmpI a b < 0) = false := by
  unfold cmpI; rw [if_neg h]; split <;> rfl
theorem cmp_cells (hG : Steady G) {Na Nb a b : Nat} (ha : (words a).length ≤ Na) (hb : (words b).length ≤ Nb) (h0 : Na < 2 ^ 40) (h1 : Nb < 2 ^ 40) :
    Spec Tryz.prog G 227 [.row (words a).length false ((dcel Na a).take ((words a).length * 1)), .row (words b).length false ((dcel Nb b).take ((words b).length * 1))] (int (cmpI a b)) := by
  have h := rcompare_spec (G := G) hG (l := words a) (m := words b) (dig_words _) (dig_words _) (by omega) (by omega)
  rw [val_words, val_words] at h
  rw [dcel_row ha, dcel_row hb]; exact h
theorem gm_round (hG : Steady G) {N0 N1 tw : Nat} (h0 : N0 < 2 ^ 40) (h1 : N1 < 2 ^ 40) {s : GS} (hf : s.fits N0 N1) (ha : 0 < s.a) (hb : 0 < s.b) :
    Goes Tryz.prog G 0 (loopOf Tryz.f167 1) (gst N0 N1 tw s) .normal (gst N0 N1 tw s.next) := by
  obtain ⟨sw, a, b⟩ := s
  have hla := len_mono (oddp_le a)
  have hlb := len_mono (oddp_le b)
  have g1 : decide (Int.ofNat (words a).length > 0) = true := by rw [len_pos_dec]; exact decide_eq_true ha
  unfold GS.next
  simp only at ha hb ⊢
  by_cases hlt : oddp a < oddp b
  · rw [if_pos hlt]
    have hls := len_mono (Nat.sub_le (oddp b) (oddp a))
    cases sw
    · obtain ⟨f1, f2⟩ := hf
      have f1 : (words a).length ≤ N0 := f1
      have f2 : (words b).length ≤ N1 := f2
      have q1 : (words (oddp a)).length ≤ N0 := by omega
      have q2 : (words (oddp b)).length ≤ N1 := by omega
      exact Goes.of_run hG (ro := []) (m := 40) (lay_len ..)
        [.eq 38 (eqB g1), .code (sa_loop hG (tw := tw) (sw := false) (b := b) ha f1 h0 h1), .code (sb_loop hG (tw := tw) (sw := false) (a := oddp a) hb f2 h0 h1), .call (cmp_cells hG q1 q2 h0 h1), .eq 56 (eqB (cmp_neg_true hlt)),
         .inl [] Tryz.func228, .code (tk_loop hG true q2 q1 (Nat.le_of_lt hlt) h1), .inl [] Tryz.func229, .code (cut_loop hG true (y := oddp b - oddp a) (dcel N0 (oddp a)) q2 h1 hls)] (by kernel_rfl)
    · obtain ⟨f1, f2⟩ := hf
      have f1 : (words b).length ≤ N0 := f1
      have f2 : (words a).length ≤ N1 := f2
      have q1 : (words (oddp b)).length ≤ N0 := by omega
      have q2 : (words (oddp a)).length ≤ N1 := by omega
      exact Goes.of_run hG (ro := []) (m := 40) (lay_len ..)
        [.eq 38 (eqB g1), .code (sa_loop hG (tw := tw) (sw := true) (b := b) ha f2 h0 h1), .code (sb_loop hG (tw := tw) (sw := true) (a := oddp a) hb f1 h0 h1), .call (cmp_cells hG q2 q1 h1 h0), .eq 56 (eqB (cmp_neg_true hlt)),
         .inl [] Tryz.func228, .code (tk_loop hG false q1 q2 (Nat.le_of_lt hlt) h0), .inl [] Tryz.func229, .code (cut_loop hG false (y := oddp b - oddp a) (dcel N1 (oddp a)) q1 h0 hls)] (by kernel_rfl)
  · rw [if_neg hlt]
    have hls := len_mono (Nat.sub_le (oddp a) (oddp b))
    cases sw
    · obtain ⟨f1, f2⟩ := hf
      have f1 : (words a).length ≤ N0 := f1
      have f2 : (words b).length ≤ N1 := f2
      have q1 : (words (oddp a)).length ≤ N0 := by omega
      have q2 : (words (oddp b)).length ≤ N1 := by omega
      exact Goes.of_run hG (ro := []) (m := 40) (lay_len ..)
        [.eq 38 (eqB g1), .code (sa_loop hG (tw := tw) (sw := false) (b := b) ha f1 h0 h1), .code (sb_loop hG (tw := tw) (sw := false) (a := oddp a) hb f2 h0 h1), .call (cmp_cells hG q1 q2 h0 h1), .eq 56 (eqB (cmp_neg_false hlt)),
         .inl [] Tryz.func228, .code (tk_loop hG false q1 q2 (by omega) h0), .inl [] Tryz.func229, .code (cut_loop hG false (y := oddp a - oddp b) (dcel N1 (oddp b)) q1 h0 hls)] (by kernel_rfl)
    · obtain ⟨f1, f2⟩ := hf
      have f1 : (words b).length ≤ N0 := f1
      have f2 : (words a).length ≤ N1 := f2
      have q1 : (words (oddp b)).length ≤ N0 := by omega
      have q2 : (words (oddp a)).length ≤ N1 := by omega
      exact Goes.of_run hG (ro := []) (m := 40) (lay_len ..)
        [.eq 38 (eqB g1), .code (sa_loop hG (tw := tw) (sw := true) (b := b) ha f2 h0 h1), .code (sb_loop hG (tw := tw) (sw := true) (a := oddp a) hb f1 h0 h1), .call (cmp_cells hG q2 q1 h1 h0), .eq 56 (eqB (cmp_neg_false hlt)),
         .inl [] Tryz.func228, .code (tk_loop hG true q2 q1 (by omega) h1), .inl [] Tryz.func229, .code (cut_loop hG true (y := oddp a - oddp b) (dcel N0 (oddp b)) q2 h1 hls)] (by kernel_rfl)
theorem gm_last (hG : Steady G) {N0 N1 tw b : Nat} {sw : Bool} : Goes Tryz.prog G 0 (loopOf Tryz.f167 1) (gst N0 N1 tw ⟨sw, 0, b⟩) (.exit 2) (gst N0 N1 tw ⟨sw, 0, b⟩) := by
  have g1 : decide (Int.ofNat (words 0).length > 0) = false := rfl
  cases sw <;> exact Goes.of_run hG (ro := []) (m := 40) (lay_len ..) [.eq 38 (eqB g1)] (by kernel_rfl)
theorem gm_loop (hG : Steady G) {N0 N1 tw : Nat} (h0 : N0 < 2 ^ 40) (h1 : N1 < 2 ^ 40) {s : GS} (hf : s.fits N0 N1) (hb : 0 < s.b) (h : Nat.gcd s.a s.b % 2 = 1) :
    ∃ sw, (GS.mk sw 0 (Nat.gcd s.a s.b)).fits N0 N1 ∧ Abs Tryz.prog G 72 0 (.loop (loopOf Tryz.f167 1)) (gst N0 N1 tw s) (.exit 2) (gst N0 N1 tw ⟨sw, 0, Nat.gcd s.a s.b⟩) := by
  obtain ⟨T, hT, hT0⟩ := GS.stops hb h
  have hfit : ∀ i, (s.nth i).fits N0 N1 := fun i => by
    induction i with
    | zero => exact hf
    | succ i ih => exact GS.next_fits ih
  have hend : s.nth T = ⟨(s.nth T).sw, 0, Nat.gcd s.a s.b⟩ := by
    obtain ⟨-, q2, -⟩ := GS.run hb h T hT
    rw [hT0, Nat.gcd_zero_left] at q2
    cases hs : s.nth T
    rw [hs] at hT0 q2
    simp only at hT0 q2 ⊢
    rw [hT0, q2]
  refine ⟨(s.nth T).sw, by rw [← hend]; exact hfit T, ?_⟩
  have hl := Abs.count (P := Tryz.prog) (Good := G) (gb := 0) (body := loopOf Tryz.f167 1) (e := .exit 2) (s' := gst N0 N1 tw ⟨(s.nth T).sw, 0, Nat.gcd s.a s.b⟩) (fun i => gst N0 N1 tw (s.nth i)) T (fun i => lay_len _ _ _) (by simp)
    (fun i hi => gm_round hG h0 h1 (hfit i) (hT i hi) (GS.run hb h i fun t ht => hT t (by omega)).1)
    (by have := gm_last (G := G) hG (N0 := N0) (N1 := N1) (tw := tw) (b := Nat.gcd s.a s.b) (sw := (s.nth T).sw)
        rw [← hend] at this ⊢; exact this)
  exact hl

/-! ### Twos taken from both -/
theorem both_round (hG : Steady G) {N0 N1 k a b : Nat} (ha : 0 < a) (hb : 0 < b) (hea : a % 2 = 0) (heb : b % 2 = 0) (h0 : N0 < 2 ^ 40) (h1 : N1 < 2 ^ 40) (hn : (words a).length ≤ N0) (hm : (words b).length ≤ N1) (hk : k < 2 ^ 59) :
    Goes Tryz.prog G 0 (loopOf Tryz.f167 0) (gst N0 N1 k ⟨false, a, b⟩) .normal (gst N0 N1 (k + 1) ⟨false, a / 2, b / 2⟩) := by
  have h59 : (2:Nat) ^ 59 = 576460752303423488 := by decide
  have h60 : (2:Nat) ^ 60 = 1152921504606846976 := by decide
  exact Goes.of_run hG (ro := []) (m := 40) (lay_len ..)
    [.prop (zero_ix ha), .prop (zero_load ha hn), .eq 20 (zero_get ha hn), .eq 21 (eq32 (zero_and a)), .eq 22 (eqB (even_true hea)),
     .prop (zero_ix hb), .prop (zero_load hb hm), .eq 26 (zero_get hb hm), .eq 27 (eq32 (zero_and b)), .eq 28 (eqB (even_true heb)),
     .inl [] Tryz.func226, .code (hal_loop hG false (x := a) (dcel N1 b) hn h0), .inl [] Tryz.func229, .code (cut_loop hG false (y := a / 2) (dcel N1 b) hn h0 (len_half a)),
     .inl [] Tryz.func226, .code (hal_loop hG true (x := b) (dcel N0 (a / 2)) hm h1), .inl [] Tryz.func229, .code (cut_loop hG true (y := b / 2) (dcel N0 (a / 2)) hm h1 (len_half b)),
     .eq 35 (eqS (nat_succ (i := k) (by omega)))] (by kernel_rfl)
theorem both_last (hG : Steady G) {N0 N1 k a b : Nat} (ha : 0 < a) (hb : 0 < b) (he : ¬ (a % 2 = 0 ∧ b % 2 = 0)) (hn : (words a).length ≤ N0) (hm : (words b).length ≤ N1) :
    Goes Tryz.prog G 0 (loopOf Tryz.f167 0) (gst N0 N1 k ⟨false, a, b⟩) (.exit 0) (gst N0 N1 k ⟨false, a, b⟩) := by
  by_cases hea : a % 2 = 0
  · have heb : ¬ b % 2 = 0 := fun h => he ⟨hea, h⟩
    exact Goes.of_run hG (ro := []) (m := 40) (lay_len ..)
      [.prop (zero_ix ha), .prop (zero_load ha hn), .eq 20 (zero_get ha hn), .eq 21 (eq32 (zero_and a)), .eq 22 (eqB (even_true hea)),
       .prop (zero_ix hb), .prop (zero_load hb hm), .eq 26 (zero_get hb hm), .eq 27 (eq32 (zero_and b)), .eq 28 (eqB (even_false heb))] (by kernel_rfl)
  · exact Goes.of_run hG (ro := []) (m := 40) (lay_len ..)
      [.prop (zero_ix ha), .prop (zero_load ha hn), .eq 20 (zero_get ha hn), .eq 21 (eq32 (zero_and a)), .eq 22 (eqB (even_false hea))] (by kernel_rfl)
/-- The number of twos that go into both. -/
theorem twos_exist {a b : Nat} (ha : 0 < a) : ∃ T, (∀ t, t < T → a / 2 ^ t % 2 = 0 ∧ b / 2 ^ t % 2 = 0) ∧ ¬ (a / 2 ^ T % 2 = 0 ∧ b / 2 ^ T % 2 = 0) :=
  first_fail (P := fun t => a / 2 ^ t % 2 = 0 ∧ b / 2 ^ t % 2 = 0) (tz a) fun h => by have := tz_odd ha; omega
theorem twos_gcd {a b : Nat} : ∀ T, (∀ t, t < T → a / 2 ^ t % 2 = 0 ∧ b / 2 ^ t % 2 = 0) → 2 ^ T * Nat.gcd (a / 2 ^ T) (b / 2 ^ T) = Nat.gcd a b
  | 0, _ => by rw [Nat.pow_zero, Nat.div_one, Nat.div_one, Nat.one_mul]
  | T + 1, h => by
    have ih := twos_gcd T fun t ht => h t (by omega)
    obtain ⟨h1, h2⟩ := h T (by omega)
    have e1 : a / 2 ^ T = 2 * (a / 2 ^ (T + 1)) := by rw [half_step]; omega
    have e2 : b / 2 ^ T = 2 * (b / 2 ^ (T + 1)) := by rw [half_step]; omega
    rw [← ih, e1, e2, gcd_both, Nat.pow_succ, Nat.mul_assoc]
theorem gcd_odd {a b : Nat} (h : ¬ (a % 2 = 0 ∧ b % 2 = 0)) : Nat.gcd a b % 2 = 1 := by
  rcases Nat.mod_two_eq_zero_or_one (Nat.gcd a b) with e | e
  · have h2 : 2 ∣ Nat.gcd a b := Nat.dvd_of_mod_eq_zero e
    have h3 := Nat.dvd_trans h2 (Nat.gcd_dvd_left a b)
    have h4 := Nat.dvd_trans h2 (Nat.gcd_dvd_right a b)
    exact absurd ⟨Nat.mod_eq_zero_of_dvd h3, Nat.mod_eq_zero_of_dvd h4⟩ h
  · exact e
theorem both_loop (hG : Steady G) {N0 N1 a b T : Nat} (ha : 0 < a) (hb : 0 < b) (h0 : N0 < 2 ^ 40) (h1 : N1 < 2 ^ 40) (hn : (words a).length ≤ N0) (hm : (words b).length ≤ N1)
    (hT : ∀ t, t < T → a / 2 ^ t % 2 = 0 ∧ b / 2 ^ t % 2 = 0) (hT2 : ¬ (a / 2 ^ T % 2 = 0 ∧ b / 2 ^ T % 2 = 0)) (hTl : T < 2 ^ 59) :
    Abs Tryz.prog G 72 0 (.loop (loopOf Tryz.f167 0)) (gst N0 N1 0 ⟨false, a, b⟩) (.exit 0) (gst N0 N1 T ⟨false, a / 2 ^ T, b / 2 ^ T⟩) := by
  have hla : ∀ i, (words (a / 2 ^ i)).length ≤ N0 := fun i => Nat.le_trans (len_mono (Nat.div_le_self _ _)) hn
  have hlb : ∀ i, (words (b / 2 ^ i)).length ≤ N1 := fun i => Nat.le_trans (len_mono (Nat.div_le_self _ _)) hm
  have h := Abs.count (P := Tryz.prog) (Good := G) (gb := 0) (body := loopOf Tryz.f167 0) (e := .exit 0) (s' := gst N0 N1 T ⟨false, a / 2 ^ T, b / 2 ^ T⟩) (fun i => gst N0 N1 i ⟨false, a / 2 ^ i, b / 2 ^ i⟩) T (fun i => lay_len _ _ _) (by simp)
    (fun i hi => by
      have := both_round (G := G) hG (k := i) (pow_pos_of ha fun k hk => (hT k (by omega)).1) (pow_pos_of hb fun k hk => (hT k (by omega)).2) (hT i hi).1 (hT i hi).2 h0 h1 (hla i) (hlb i) (by omega)
      rwa [← half_step, ← half_step] at this)
    (both_last hG (pow_pos_of ha fun k hk => (hT k hk).1) (pow_pos_of hb fun k hk => (hT k hk).2) hT2 (hla _) (hlb _))
  simp only [Nat.pow_zero, Nat.div_one] at h
  exact h

/-! ### The twos put back -/
theorem rplus_words (hG : Steady G) {a b : Nat} (ha : (words a).length ≤ 2 ^ 36) (hb : (words b).length ≤ 2 ^ 36) : Spec Tryz.prog G 230 [rowW (words a), rowW (words b)] (rowW (words (a + b))) := by
  have := rplus_spec (G := G) hG (dig_words a) (dig_words b) ha hb
  rwa [val_words, val_words] at this
def dbInv (T g i : Nat) : St := lay 72 [(1, rowW (words (2 ^ i * g))), (64, nat T), (65, nat i)] []
theorem db_loop (hG : Steady G) {T g : Nat} (hT : T < 2 ^ 59) (hl : (words (2 ^ T * g)).length ≤ 2 ^ 36) :
    Abs Tryz.prog G 72 0 (.loop (loopOf Tryz.f167 4)) (lay 72 [(1, rowW (words g)), (64, nat T), (65, nat 0)] []) (.exit 8) (dbInv T g T) := by
  have h59 : (2:Nat) ^ 59 = 576460752303423488 := by decide
  have h60 : (2:Nat) ^ 60 = 1152921504606846976 := by decide
  have h := Abs.count (P := Tryz.prog) (Good := G) (gb := 0) (body := loopOf Tryz.f167 4) (e := .exit 8) (s' := dbInv T g T) (dbInv T g) T (fun i => lay_len _ _ _) (by simp)
    (fun i hi => by
      have hle : (words (2 ^ i * g)).length ≤ 2 ^ 36 := Nat.le_trans (len_mono (Nat.mul_le_mul_right g (Nat.pow_le_pow_right (by omega) (Nat.le_of_lt hi)))) hl
      have e : 2 ^ (i + 1) * g = 2 ^ i * g + 2 ^ i * g := by rw [Nat.pow_succ]; grind
      unfold dbInv
      rw [e]
      exact Goes.of_run hG (ro := []) (m := 40) (lay_len ..) [.eq 66 (eqB (lt_true hi)), .call (rplus_words hG hle hle), .eq 70 (eqS (nat_succ (i := i) (by omega)))] (by kernel_rfl))
    (Goes.of_run hG (ro := []) (m := 40) (lay_len ..) [.eq 66 (eqB (lt_false (Nat.le_refl T)))] (by kernel_rfl))
  unfold dbInv at h
  simp only [Nat.pow_zero, Nat.one_mul] at h
  exact h
end Lw

namespace Lw
open Go Go.RowKit Go.Proofs

variable {G : World → Prop}

/-! ### gcd -/
theorem trim_need (n : Nat) (h0 : 0 < n) (h : n ≤ 2 ^ 36) (l : List D) (hl : l.length = n) : 0 < n ∧ ([] : List D).length = 0 * 1 ∧ l.length = n * 1 ∧ 0 + n ≤ 2 ^ 62 ∧ (0 + n) * 4 ≤ 2 ^ 47 := by
  have h36 : (2:Nat) ^ 36 = 68719476736 := by decide
  have h62 : (2:Nat) ^ 62 = 4611686018427387904 := by decide
  have h47 : (2:Nat) ^ 47 = 140737488355328 := by decide
  exact ⟨h0, rfl, by omega, by omega, by omega⟩
theorem rgcd_zero_l (hG : Steady G) {b : Nat} (hb : (words b).length ≤ 2 ^ 36) : Spec Tryz.prog G 167 [rowW (words 0), rowW (words b)] (rowW (words b)) := by
  have h36 : (2:Nat) ^ 36 = 68719476736 := by decide
  have h40 : (2:Nat) ^ 40 = 1099511627776 := by decide
  have t1 := rtrim_spec (G := G) hG (dig_words 0) (by decide)
  have t2 := rtrim_spec (G := G) hG (dig_words b) (by omega)
  rw [val_words] at t1 t2
  exact Spec.of_run hG Tryz.func167 (ro := []) (m := 40) [.call t1, .call t2, .eq 12 (eqB (x := (Int.ofNat (words 0).length == 0)) (y := true) rfl)] (by kernel_rfl)
theorem rgcd_zero_r (hG : Steady G) {a : Nat} (h : 0 < a) (ha : (words a).length ≤ 2 ^ 36) : Spec Tryz.prog G 167 [rowW (words a), rowW (words 0)] (rowW (words a)) := by
  have h36 : (2:Nat) ^ 36 = 68719476736 := by decide
  have h40 : (2:Nat) ^ 40 = 1099511627776 := by decide
  have t1 := rtrim_spec (G := G) hG (dig_words a) (by omega)
  have t2 := rtrim_spec (G := G) hG (dig_words 0) (by decide)
  rw [val_words] at t1 t2
  exact Spec.of_run hG Tryz.func167 (ro := []) (m := 40) [.call t1, .call t2, .eq 12 (eqB (words_ne h)), .eq 16 (eqB (x := (Int.ofNat (words 0).length == 0)) (y := true) rfl)] (by kernel_rfl)
theorem rgcd_both (hG : Steady G) {a b : Nat} (ha0 : 0 < a) (hb0 : 0 < b) (ha : (words a).length ≤ 2 ^ 36) (hb : (words b).length ≤ 2 ^ 36) :
    Spec Tryz.prog G 167 [rowW (words a), rowW (words b)] (rowW (words (Nat.gcd a b))) := by
  have h36 : (2:Nat) ^ 36 = 68719476736 := by decide
  have h40 : (2:Nat) ^ 40 = 1099511627776 := by decide
  have h59 : (2:Nat) ^ 59 = 576460752303423488 := by decide
  have h60 : (2:Nat) ^ 60 = 1152921504606846976 := by decide
  have la := words_len_pos (n := a) (by omega)
  have lb := words_len_pos (n := b) (by omega)
  obtain ⟨T, hT, hT2⟩ := twos_exist (b := b) ha0
  have hTl : T ≤ 32 * (words a).length := by
    rcases Nat.eq_zero_or_pos T with e | e
    · omega
    · have hp := pow_pos_of ha0 (i := T) fun k hk => (hT k hk).1
      have h1 : 2 ^ T ≤ a := by
        rcases Nat.lt_or_ge a (2 ^ T) with q | q
        · rw [Nat.div_eq_of_lt q] at hp; omega
        · exact q
      have h2 := (len_le_iff a _).1 (Nat.le_refl _)
      rw [BP_two] at h2
      rcases Nat.lt_or_ge (32 * (words a).length) T with q | q
      · have := Nat.pow_le_pow_right (n := 2) (by omega) (Nat.le_of_lt q); omega
      · exact q
  have hg := twos_gcd T hT
  have hodd := gcd_odd hT2
  have hbT := pow_pos_of hb0 (i := T) fun k hk => (hT k hk).2
  have hboth := both_loop (G := G) hG (N0 := (words a).length) (N1 := (words b).length) ha0 hb0 (by omega) (by omega) (Nat.le_refl _) (Nat.le_refl _) hT hT2 (by omega)
  have est : gst (words a).length (words b).length 0 ⟨false, a, b⟩ = lay 72 [(0, .gsl 0 (0 + (words a).length) 1), (1, .gsl 1 (0 + (words b).length) 1), (5, nat 0)] [(0, [] ++ (words a).map u32), (1, [] ++ (words b).map u32)] := by
    unfold gst blk2 dcel
    simp only [cond, Nat.zero_add, List.nil_append]
    rw [← words_digs_self, ← words_digs_self]
  rw [est] at hboth
  have hfit : (GS.mk false (a / 2 ^ T) (b / 2 ^ T)).fits (words a).length (words b).length := ⟨len_mono (Nat.div_le_self _ _), len_mono (Nat.div_le_self _ _)⟩
  obtain ⟨sw, hf, hmain⟩ := gm_loop (G := G) hG (N0 := (words a).length) (N1 := (words b).length) (tw := T) (by omega) (by omega) hfit hbT hodd
  simp only at hf hmain
  generalize hgg : Nat.gcd (a / 2 ^ T) (b / 2 ^ T) = g at *
  have hle : (words (2 ^ T * g)).length ≤ 2 ^ 36 := by rw [hg]; exact Nat.le_trans (len_mono (Nat.gcd_le_left b ha0)) ha
  have hdb := db_loop (G := G) hG (T := T) (g := g) (by omega) hle
  have ga : decide (Int.ofNat (0 + (words a).length) > 0) = true := by simp only [Int.ofNat_eq_natCast, decide_eq_true_eq]; omega
  have gb : decide (Int.ofNat (0 + (words b).length) > 0) = true := by simp only [Int.ofNat_eq_natCast, decide_eq_true_eq]; omega
  have na : IntKind.wrap .i64 (Int.ofNat (0 + (words a).length) - 1) = Int.ofNat ((words a).length - 1) := by rw [Nat.zero_add]; exact nat_pred (by omega) la
  have nb : IntKind.wrap .i64 (Int.ofNat (0 + (words b).length) - 1) = Int.ofNat ((words b).length - 1) := by rw [Nat.zero_add]; exact nat_pred (by omega) lb
  have ia : (0:Int) ≤ Int.ofNat ((words a).length - 1) ∧ Int.ofNat ((words a).length - 1) < ((0 + (words a).length : Nat) : Int) := by simp only [Int.ofNat_eq_natCast]; omega
  have ib : (0:Int) ≤ Int.ofNat ((words b).length - 1) ∧ Int.ofNat ((words b).length - 1) < ((0 + (words b).length : Nat) : Int) := by simp only [Int.ofNat_eq_natCast]; omega
  have pa : D.ptr 0 ((Int.ofNat ((words a).length - 1)).toNat * 1) = .ptr 0 ((words a).length - 1) := by simp
  have pb : D.ptr 1 ((Int.ofNat ((words b).length - 1)).toNat * 1) = .ptr 1 ((words b).length - 1) := by simp
  have va : 0 < 1 ∧ (words a).length - 1 + 1 ≤ ([] ++ (words a).map u32).length := by rw [List.nil_append, List.length_map]; omega
  have vb : 0 < 1 ∧ (words b).length - 1 + 1 ≤ ([] ++ (words b).map u32).length := by rw [List.nil_append, List.length_map]; omega
  have ca : (([] ++ (words a).map u32).drop ((words a).length - 1)).headD .any = u32 ((words a).getD ((words a).length - 1) 0) := by
    have := headD_u32 (l := words a) (i := (words a).length - 1) (by omega)
    rw [Nat.mul_one] at this; exact this
  have cb : (([] ++ (words b).map u32).drop ((words b).length - 1)).headD .any = u32 ((words b).getD ((words b).length - 1) 0) := by
    have := headD_u32 (l := words b) (i := (words b).length - 1) (by omega)
    rw [Nat.mul_one] at this; exact this
  have za : (Int.ofNat ((words a).getD ((words a).length - 1) 0) == 0) = false := by rw [beq_eq_false_iff_ne]; have := words_last (n := a) (by omega); simp only [Int.ofNat_eq_natCast]; omega
  have zb : (Int.ofNat ((words b).getD ((words b).length - 1) 0) == 0) = false := by rw [beq_eq_false_iff_ne]; have := words_last (n := b) (by omega); simp only [Int.ofNat_eq_natCast]; omega
  have wa : (Int.ofNat (0 + (words a).length) == 0) = false := by rw [beq_eq_false_iff_ne]; simp only [Int.ofNat_eq_natCast]; omega
  have wb : (Int.ofNat (0 + (words b).length) == 0) = false := by rw [beq_eq_false_iff_ne]; simp only [Int.ofNat_eq_natCast]; omega
  have ma := trim_need (words a).length la ha ((words a).map u32) (by simp)
  have mb := trim_need (words b).length lb hb ((words b).map u32) (by simp)
  rw [← hg]
  cases sw
  · have hf2 : (words g).length ≤ (words b).length := hf.2
    rw [← dcel_row hf2] at hdb
    exact Spec.of_run hG Tryz.func167 (ro := []) (m := 40)
      [.inl [] Tryz.func225, .prop ma, .eq 9 (eqB ga), .eq 14 (eqS na), .prop ia, .eq 15 pa, .prop va, .eq 16 ca, .eq 17 (eqB za),
       .inl [] Tryz.func225, .prop mb, .eq 9 (eqB gb), .eq 14 (eqS nb), .prop ib, .eq 15 pb, .prop vb, .eq 16 cb, .eq 17 (eqB zb),
       .eq 12 (eqB wa), .eq 16 (eqB wb), .code hboth, .code hmain, .freeze 1, .code hdb] (by kernel_rfl)
  · have hf2 : (words g).length ≤ (words a).length := hf.1
    rw [← dcel_row hf2] at hdb
    exact Spec.of_run hG Tryz.func167 (ro := []) (m := 40)
      [.inl [] Tryz.func225, .prop ma, .eq 9 (eqB ga), .eq 14 (eqS na), .prop ia, .eq 15 pa, .prop va, .eq 16 ca, .eq 17 (eqB za),
       .inl [] Tryz.func225, .prop mb, .eq 9 (eqB gb), .eq 14 (eqS nb), .prop ib, .eq 15 pb, .prop vb, .eq 16 cb, .eq 17 (eqB zb),
       .eq 12 (eqB wa), .eq 16 (eqB wb), .code hboth, .code hmain, .freeze 0, .code hdb] (by kernel_rfl)
theorem rgcd_spec (hG : Steady G) {a b : Nat} (ha : (words a).length ≤ 2 ^ 36) (hb : (words b).length ≤ 2 ^ 36) :
    Spec Tryz.prog G 167 [rowW (words a), rowW (words b)] (rowW (words (Nat.gcd a b))) := by
  rcases Nat.eq_zero_or_pos a with h | h
  · subst h; rw [Nat.gcd_zero_left]; exact rgcd_zero_l hG hb
  · rcases Nat.eq_zero_or_pos b with h2 | h2
    · subst h2; rw [Nat.gcd_zero_right]; exact rgcd_zero_r hG h ha
    · exact rgcd_both hG h h2 ha hb

/-! ### Words -/
theorem rtimes_words (hG : Steady G) {a b : Nat} (ha : (words a).length ≤ 2 ^ 36) (hb : (words b).length ≤ 2 ^ 36) : Spec Tryz.prog G 327 [rowW (words a), rowW (words b)] (rowW (words (a * b))) := by
  have := rtimes_spec (G := G) hG (dig_words a) (dig_words b) ha hb
  rwa [val_words, val_words] at this
theorem rminus_words (hG : Steady G) {a b : Nat} (ha : (words a).length ≤ 2 ^ 36) (h : b ≤ a) : Spec Tryz.prog G 290 [rowW (words a), rowW (words b)] (rowW (words (a - b))) := by
  have := rminus_spec (G := G) hG (dig_words a) (dig_words b) (by rw [val_words, val_words]; exact h) ha
  rwa [val_words, val_words] at this
theorem rcmp_words (hG : Steady G) {a b : Nat} (ha : (words a).length ≤ 2 ^ 36) (hb : (words b).length ≤ 2 ^ 36) : Spec Tryz.prog G 227 [rowW (words a), rowW (words b)] (int (cmpI a b)) := by
  have h36 : (2:Nat) ^ 36 = 68719476736 := by decide
  have h40 : (2:Nat) ^ 40 = 1099511627776 := by decide
  have := rcompare_spec (G := G) hG (dig_words a) (dig_words b) (by omega) (by omega)
  rwa [val_words, val_words] at this
theorem rplus_one (hG : Steady G) {a : Nat} (ha : (words a).length ≤ 2 ^ 36) : Spec Tryz.prog G 230 [rowW (words a), rowW [1]] (rowW (words (a + 1))) := by
  have := rplus_spec (G := G) hG (dig_words a) (m := [1]) (fun y hy => by simp at hy; omega) ha (by simp)
  rw [val_words] at this
  exact this

/-! ### By integers -/
theorem Rsign_wv (hG : Steady G) {s : Bool} {n : Nat} (hs : s = true → 0 < n) (hn : (words n).length ≤ 2 ^ 36) : Spec Tryz.prog G 106 [wv s n] (int (if n = 0 then 0 else if s then -1 else 1)) := by
  rcases Nat.eq_zero_or_pos n with rfl | h
  · exact Spec.of_run hG Tryz.func106 (ro := [1]) (m := 30) [.call (rmag_spec hG hs hn)] (by kernel_rfl)
  · rw [if_neg (by omega)]
    cases s with
    | false => exact Spec.of_run hG Tryz.func106 (ro := [1]) (m := 30) [.call (rmag_spec hG hs hn), .eq 6 (eqB (words_ne h)), .call (rneg_spec hG hs hn)] (by kernel_rfl)
    | true => exact Spec.of_run hG Tryz.func106 (ro := [1]) (m := 30) [.call (rmag_spec hG hs hn), .eq 6 (eqB (words_ne h)), .call (rneg_spec hG hs hn)] (by kernel_rfl)
theorem RNeg_wv (hG : Steady G) {s : Bool} {n : Nat} (hs : s = true → 0 < n) (hn : (words n).length ≤ 2 ^ 36) : Spec Tryz.prog G 224 [wv s n] (wv (!s && decide (0 < n)) n) := by
  cases s with
  | false => exact Spec.of_run hG Tryz.func224 (ro := [1]) (m := 30) [.call (rneg_spec hG hs hn), .call (rmag_spec hG hs hn), .call (rform_spec hG true hn)] (by kernel_rfl)
  | true => exact Spec.of_run hG Tryz.func224 (ro := [1]) (m := 30) [.call (rneg_spec hG hs hn), .call (rmag_spec hG hs hn), .call (rform_spec hG false hn)] (by kernel_rfl)
theorem RMul_wv (hG : Steady G) {s t : Bool} {m n : Nat} (hs : s = true → 0 < m) (ht : t = true → 0 < n) (hm : Sz m) (hn : Sz n) :
    Spec Tryz.prog G 299 [wv s m, wv t n] (wv (Bool.xor s t && decide (0 < m * n)) (m * n)) := by
  have h30 : (2:Nat) ^ 30 = 1073741824 := by decide
  have h36 : (2:Nat) ^ 36 = 68719476736 := by decide
  have hl : (words (m * n)).length ≤ 2 ^ 36 := by
    have := len_mul (a := m) (b := n)
    unfold Sz at hm hn; omega
  have hw := rform_spec (G := G) hG (Bool.xor s t) hl
  cases s <;> cases t <;>
    exact Spec.of_run hG Tryz.func299 (ro := [2, 3]) (m := 30)
      [.call (rneg_spec hG hs hm.le36), .call (rneg_spec hG ht hn.le36), .call (rmag_spec hG hs hm.le36), .call (rmag_spec hG ht hn.le36), .call (rtimes_words hG hm.le36 hn.le36), .call hw] (by kernel_rfl)
/-- A sum: where the signs are equal. -/
theorem RAdd_same (hG : Steady G) (s : Bool) {m n : Nat} (hs : s = true → 0 < m) (ht : s = true → 0 < n) (hm : Sz m) (hn : Sz n) :
    Spec Tryz.prog G 223 [wv s m, wv s n] (wv (s && decide (0 < m + n)) (m + n)) := by
  have h30 : (2:Nat) ^ 30 = 1073741824 := by decide
  have h36 : (2:Nat) ^ 36 = 68719476736 := by decide
  have hl : (words (m + n)).length ≤ 2 ^ 36 := by
    have := len_add (a := m) (b := n)
    unfold Sz at hm hn; omega
  have hw := rform_spec (G := G) hG s hl
  cases s <;>
    exact Spec.of_run hG Tryz.func223 (ro := [2, 3]) (m := 30)
      [.call (rmag_spec hG hs hm.le36), .call (rmag_spec hG ht hn.le36), .call (rneg_spec hG hs hm.le36), .call (rneg_spec hG ht hn.le36), .call (rneg_spec hG hs hm.le36), .call (rplus_words hG hm.le36 hn.le36), .call hw] (by kernel_rfl)
/-- A sum: where the first one is at least as big. -/
theorem RAdd_big (hG : Steady G) (s : Bool) {m n : Nat} (hs : s = true → 0 < m) (ht : (!s) = true → 0 < n) (hm : Sz m) (hn : Sz n) (h : n ≤ m) :
    Spec Tryz.prog G 223 [wv s m, wv (!s) n] (wv (s && decide (0 < m - n)) (m - n)) := by
  have hl : (words (m - n)).length ≤ 2 ^ 36 := Nat.le_trans (len_mono (Nat.sub_le _ _)) hm.le36
  have hw := rform_spec (G := G) hG s hl
  cases s <;>
    exact Spec.of_run hG Tryz.func223 (ro := [2, 3]) (m := 30)
      [.call (rmag_spec hG hs hm.le36), .call (rmag_spec hG ht hn.le36), .call (rneg_spec hG hs hm.le36), .call (rneg_spec hG ht hn.le36), .call (rcmp_words hG hm.le36 hn.le36), .eq 25 (eqB (cmp_ge0 h)),
       .call (rneg_spec hG hs hm.le36), .call (rminus_words hG hm.le36 h), .call hw] (by kernel_rfl)
/-- A sum: where the second one is bigger. -/
theorem RAdd_small (hG : Steady G) (s : Bool) {m n : Nat} (hs : s = true → 0 < m) (ht : (!s) = true → 0 < n) (hm : Sz m) (hn : Sz n) (h : m < n) :
    Spec Tryz.prog G 223 [wv s m, wv (!s) n] (wv (!s && decide (0 < n - m)) (n - m)) := by
  have hl : (words (n - m)).length ≤ 2 ^ 36 := Nat.le_trans (len_mono (Nat.sub_le _ _)) hn.le36
  have hw := rform_spec (G := G) hG (!s) hl
  cases s <;>
    exact Spec.of_run hG Tryz.func223 (ro := [2, 3]) (m := 30)
      [.call (rmag_spec hG hs hm.le36), .call (rmag_spec hG ht hn.le36), .call (rneg_spec hG hs hm.le36), .call (rneg_spec hG ht hn.le36), .call (rcmp_words hG hm.le36 hn.le36), .eq 25 (eqB (cmp_lt0 h)),
       .call (rneg_spec hG ht hn.le36), .call (rminus_words hG hn.le36 (Nat.le_of_lt h)), .call hw] (by kernel_rfl)

theorem RAdd_spec (hG : Steady G) {i j : Int} (hi : SzI i) (hj : SzI j) : Spec Tryz.prog G 223 [W i, W j] (W (i + j)) := by
  obtain ⟨s, m, rfl, hs, hm⟩ := mk_of i
  obtain ⟨t, n, rfl, ht, hn⟩ := mk_of j
  unfold SzI at hi hj
  rw [← hm] at hi
  rw [← hn] at hj
  rw [W_mk hs, W_mk ht]
  by_cases hst : t = s
  · subst hst
    have e : mkI t m + mkI t n = mkI t (m + n) := by unfold mkI; cases t <;> simp; omega
    rw [e, W_mk']
    exact RAdd_same hG t hs ht hi hj
  · have : t = !s := by cases s <;> cases t <;> first | rfl | exact absurd rfl hst
    subst this
    rcases Nat.lt_or_ge m n with h | h
    · have e : mkI s m + mkI (!s) n = mkI (!s) (n - m) := by unfold mkI; cases s <;> simp <;> omega
      rw [e, W_mk']
      exact RAdd_small hG s hs ht hi hj h
    · have e : mkI s m + mkI (!s) n = mkI s (m - n) := by unfold mkI; cases s <;> simp <;> omega
      rw [e, W_mk']
      exact RAdd_big hG s hs ht hi hj h
theorem RMul_spec (hG : Steady G) {i j : Int} (hi : SzI i) (hj : SzI j) : Spec Tryz.prog G 299 [W i, W j] (W (i * j)) := by
  obtain ⟨s, m, rfl, hs, hm⟩ := mk_of i
  obtain ⟨t, n, rfl, ht, hn⟩ := mk_of j
  unfold SzI at hi hj
  rw [← hm] at hi
  rw [← hn] at hj
  rw [W_mk hs, W_mk ht]
  have e : mkI s m * mkI t n = mkI (Bool.xor s t) (m * n) := by unfold mkI; cases s <;> cases t <;> simp [Int.mul_neg, Int.neg_mul]
  rw [e, W_mk']
  exact RMul_wv hG hs ht hi hj
theorem RNeg_spec (hG : Steady G) {i : Int} (hi : SzI i) : Spec Tryz.prog G 224 [W i] (W (-i)) := by
  obtain ⟨s, m, rfl, hs, hm⟩ := mk_of i
  unfold SzI at hi
  rw [← hm] at hi
  rw [W_mk hs]
  have e : -mkI s m = mkI (!s) m := by unfold mkI; cases s <;> simp
  rw [e, W_mk']
  exact RNeg_wv hG hs hi.le36
theorem RSign_spec (hG : Steady G) {i : Int} (hi : SzI i) : Spec Tryz.prog G 106 [W i] (int i.sign) := by
  obtain ⟨s, m, rfl, hs, hm⟩ := mk_of i
  unfold SzI at hi
  rw [← hm] at hi
  rw [W_mk hs]
  have := Rsign_wv (G := G) hG hs hi.le36
  have e : (mkI s m).sign = if m = 0 then 0 else if s then -1 else 1 := by
    cases s with
    | false =>
      show ((m : Int)).sign = if m = 0 then 0 else if false = true then -1 else 1
      by_cases h : m = 0
      · subst h; rfl
      · rw [if_neg h, if_neg (by simp)]; exact Int.sign_eq_one_of_pos (by omega)
    | true =>
      have := hs rfl
      show (-(m : Int)).sign = if m = 0 then 0 else if true = true then -1 else 1
      rw [if_neg (show ¬ m = 0 by omega), if_pos rfl]; exact Int.sign_eq_neg_one_of_neg (by omega)
  rw [e]; exact this
theorem RDiv_even (hG : Steady G) {s t : Bool} {m n : Nat} (hs : s = true → 0 < m) (ht : t = true → 0 < n) (hn0 : 0 < n) (hm : Sz m) (hn : Sz n) (hr : s = false ∨ m % n = 0) :
    Spec Tryz.prog G 326 [wv s m, wv t n] (.tup [wv (Bool.xor s t && decide (0 < m / n)) (m / n), wv (false && decide (0 < m % n)) (m % n), int 0]) := by
  have hq : (words (m / n)).length ≤ 2 ^ 36 := Nat.le_trans (len_mono (Nat.div_le_self _ _)) hm.le36
  have hr' : (words (m % n)).length ≤ 2 ^ 36 := Nat.le_trans (len_mono (Nat.mod_le _ _)) hm.le36
  have hsg : ((if n = 0 then 0 else if t then -1 else 1 : Int) == 0) = false := by rw [if_neg (by omega)]; cases t <;> rfl
  have hw := rform_spec (G := G) hG (Bool.xor s t) hq
  have hw2 := rform_spec (G := G) hG false hr'
  cases s with
  | false =>
    cases t <;>
      exact Spec.of_run hG Tryz.func326 (ro := [2, 3]) (m := 30)
        [.call (Rsign_wv hG ht hn.le36), .eq 11 (eqB hsg), .call (rmag_spec hG hs hm.le36), .call (rmag_spec hG ht hn.le36), .call (rdivide_spec hG hn0 hm.le36 hn.le36), .call (rneg_spec hG hs hm.le36),
         .call (rneg_spec hG hs hm.le36), .call (rneg_spec hG ht hn.le36), .call hw, .call hw2] (by kernel_rfl)
  | true =>
    have h0 : m % n = 0 := by rcases hr with h | h; cases h; exact h
    have hl : decide (Int.ofNat (words (m % n)).length > 0) = false := by rw [len_pos_dec, h0]; rfl
    cases t <;>
      exact Spec.of_run hG Tryz.func326 (ro := [2, 3]) (m := 30)
        [.call (Rsign_wv hG ht hn.le36), .eq 11 (eqB hsg), .call (rmag_spec hG hs hm.le36), .call (rmag_spec hG ht hn.le36), .call (rdivide_spec hG hn0 hm.le36 hn.le36), .call (rneg_spec hG hs hm.le36), .eq 27 (eqB hl),
         .call (rneg_spec hG hs hm.le36), .call (rneg_spec hG ht hn.le36), .call hw, .call hw2] (by kernel_rfl)
theorem RDiv_odd (hG : Steady G) {t : Bool} {m n : Nat} (hs : 0 < m) (ht : t = true → 0 < n) (hn0 : 0 < n) (hm : Sz m) (hn : Sz n) (hr : 0 < m % n) :
    Spec Tryz.prog G 326 [wv true m, wv t n] (.tup [wv (Bool.xor true t && decide (0 < m / n + 1)) (m / n + 1), wv (false && decide (0 < n - m % n)) (n - m % n), int 0]) := by
  have h30 : (2:Nat) ^ 30 = 1073741824 := by decide
  have h36 : (2:Nat) ^ 36 = 68719476736 := by decide
  have hq : (words (m / n)).length ≤ 2 ^ 36 := Nat.le_trans (len_mono (Nat.div_le_self _ _)) hm.le36
  have hq1 : (words (m / n + 1)).length ≤ 2 ^ 36 := by
    have h1 : m / n + 1 ≤ m + 1 := by have := Nat.div_le_self m n; omega
    have h2 := len_mono h1
    have h3 := len_add (a := m) (b := 1)
    have h4 : (words 1).length = 1 := rfl
    unfold Sz at hm
    omega
  have hr' : (words (m % n)).length ≤ 2 ^ 36 := Nat.le_trans (len_mono (Nat.mod_le _ _)) hm.le36
  have hr2 : (words (n - m % n)).length ≤ 2 ^ 36 := Nat.le_trans (len_mono (Nat.sub_le _ _)) hn.le36
  have hsg : ((if n = 0 then 0 else if t then -1 else 1 : Int) == 0) = false := by rw [if_neg (by omega)]; cases t <;> rfl
  have hw := rform_spec (G := G) hG (Bool.xor true t) hq1
  have hw2 := rform_spec (G := G) hG false hr2
  have hl : decide (Int.ofNat (words (m % n)).length > 0) = true := by rw [len_pos_dec]; exact decide_eq_true hr
  have hmn : m % n ≤ n := Nat.le_of_lt (Nat.mod_lt _ hn0)
  cases t <;>
    exact Spec.of_run hG Tryz.func326 (ro := [2, 3]) (m := 30)
      [.call (Rsign_wv hG ht hn.le36), .eq 11 (eqB hsg), .call (rmag_spec (s := true) hG (fun _ => hs) hm.le36), .call (rmag_spec hG ht hn.le36), .call (rdivide_spec hG hn0 hm.le36 hn.le36), .call (rneg_spec (s := true) hG (fun _ => hs) hm.le36), .eq 27 (eqB hl),
       .call (rplus_one hG hq), .call (rmag_spec hG ht hn.le36), .call (rminus_words hG hn.le36 hmn), .call (rneg_spec (s := true) hG (fun _ => hs) hm.le36), .call (rneg_spec hG ht hn.le36), .call hw, .call hw2] (by kernel_rfl)
theorem RDiv_spec (hG : Steady G) {i j : Int} (hi : SzI i) (hj : SzI j) (hj0 : j ≠ 0) : Spec Tryz.prog G 326 [W i, W j] (.tup [W (i / j), W (i % j), int 0]) := by
  obtain ⟨s, m, rfl, hs, hm⟩ := mk_of i
  obtain ⟨t, n, rfl, ht, hn⟩ := mk_of j
  unfold SzI at hi hj
  rw [← hm] at hi
  rw [← hn] at hj
  have hn0 : 0 < n := by
    rcases Nat.eq_zero_or_pos n with h | h
    · subst h; exact absurd (by cases t <;> rfl) hj0
    · exact h
  rw [W_mk hs, W_mk ht]
  have hdm := Nat.div_add_mod m n
  have hml := Nat.mod_lt m hn0
  by_cases hc : s = false ∨ m % n = 0
  · have e : mkI s m / mkI t n = mkI (Bool.xor s t) (m / n) ∧ mkI s m % mkI t n = ((m % n : Nat) : Int) := by
      have base : mkI s m / (n : Int) = mkI s (m / n) ∧ mkI s m % (n : Int) = ((m % n : Nat) : Int) := by
        rw [Int.ediv_emod_unique (by omega)]
        cases s with
        | false => exact ⟨by show ((m % n : Nat) : Int) + (n : Int) * ((m / n : Nat) : Int) = (m : Int); rw [← Int.natCast_mul]; omega, by omega, by omega⟩
        | true =>
          have h0 : m % n = 0 := by rcases hc with h | h; cases h; exact h
          refine ⟨?_, by omega, by omega⟩
          show ((m % n : Nat) : Int) + (n : Int) * (-((m / n : Nat) : Int)) = -(m : Int)
          rw [Int.mul_neg, ← Int.natCast_mul]; omega
      cases t with
      | false =>
        have : Bool.xor s false = s := by cases s <;> rfl
        rw [this]; exact base
      | true =>
        obtain ⟨b1, b2⟩ := div_neg' (mkI s m) n
        refine ⟨?_, by show mkI s m % -(n : Int) = _; rw [b2]; exact base.2⟩
        show mkI s m / -(n : Int) = _
        rw [b1, base.1]
        cases s <;> simp [mkI]
    rw [e.1, e.2, W_mk', W_nat]
    exact RDiv_even hG hs ht hn0 hi hj hc
  · have hst : s = true := by cases s with | true => rfl | false => exact absurd (.inl rfl) hc
    subst hst
    have hr : 0 < m % n := by
      rcases Nat.eq_zero_or_pos (m % n) with h | h
      · exact absurd (.inr h) hc
      · exact h
    have e : mkI true m / mkI t n = mkI (Bool.xor true t) (m / n + 1) ∧ mkI true m % mkI t n = ((n - m % n : Nat) : Int) := by
      have base : mkI true m / (n : Int) = mkI true (m / n + 1) ∧ mkI true m % (n : Int) = ((n - m % n : Nat) : Int) := by
        rw [Int.ediv_emod_unique (by omega)]
        refine ⟨?_, by omega, by omega⟩
        show ((n - m % n : Nat) : Int) + (n : Int) * (-((m / n + 1 : Nat) : Int)) = -(m : Int)
        rw [Int.mul_neg, ← Int.natCast_mul, Nat.mul_add, Nat.mul_one]; omega
      cases t with
      | false => exact base
      | true =>
        obtain ⟨b1, b2⟩ := div_neg' (mkI true m) n
        refine ⟨?_, by show mkI true m % -(n : Int) = _; rw [b2]; exact base.2⟩
        show mkI true m / -(n : Int) = _
        rw [b1, base.1]
        simp [mkI]
    rw [e.1, e.2, W_mk', W_nat]
    exact RDiv_odd hG (hs rfl) ht hn0 hi hj hr

theorem RGcd_spec (hG : Steady G) {i j : Int} (hi : SzI i) (hj : SzI j) : Spec Tryz.prog G 103 [W i, W j] (W ((Int.gcd i j : Nat) : Int)) := by
  obtain ⟨s, m, rfl, hs, hm⟩ := mk_of i
  obtain ⟨t, n, rfl, ht, hn⟩ := mk_of j
  unfold SzI at hi hj
  rw [← hm] at hi
  rw [← hn] at hj
  rw [W_mk hs, W_mk ht, W_nat]
  have e : Int.gcd (mkI s m) (mkI t n) = Nat.gcd m n := by unfold Int.gcd; rw [← hm, ← hn]
  rw [e]
  exact Spec.of_run hG Tryz.func103 (ro := [2, 3]) (m := 30)
    [.call (rmag_spec hG hs hi.le36), .call (rmag_spec hG ht hj.le36), .call (rgcd_spec hG hi.le36 hj.le36), .call (rform_spec hG false (len_gcd hi.le36 hj.le36))] (by kernel_rfl)
theorem RSub_spec (hG : Steady G) {i j : Int} (hi : SzI i) (hj : SzI j) : Spec Tryz.prog G 165 [W i, W j] (W (i - j)) := by
  have h := RAdd_spec (G := G) hG (i := i) (j := -j) hi (by unfold SzI at hj ⊢; rw [Int.natAbs_neg]; exact hj)
  rw [← Int.sub_eq_add_neg] at h
  exact Spec.of_run hG Tryz.func165 (ro := [2, 3]) (m := 30) [.call (RNeg_spec hG hj), .call h] (by kernel_rfl)
theorem cmpZ_sign (i j : Int) : (i - j).sign = cmpZ i j := by
  unfold cmpZ
  rcases sign_cases (i - j) with ⟨a, b⟩ | ⟨a, b⟩ | ⟨a, b⟩
  · rw [b, if_pos (by omega)]
  · rw [b, if_neg (by omega), if_neg (by omega)]
  · rw [b, if_neg (by omega), if_pos (by omega)]
theorem RCmp_spec (hG : Steady G) {i j : Int} (hi : (words i.natAbs).length < 2 ^ 30) (hj : (words j.natAbs).length < 2 ^ 30) : Spec Tryz.prog G 102 [W i, W j] (int (cmpZ i j)) := by
  have hs : SzI (i - j) := by
    have h1 := len_mono (Int.natAbs_sub_le i j)
    have h2 := len_add (a := i.natAbs) (b := j.natAbs)
    unfold SzI Sz; omega
  have h := RSign_spec (G := G) hG hs
  rw [cmpZ_sign] at h
  exact Spec.of_run hG Tryz.func102 (ro := [2, 3]) (m := 30) [.call (RSub_spec hG (i := i) (j := j) (Nat.le_of_lt hi) (Nat.le_of_lt hj)), .call h] (by kernel_rfl)
end Lw

namespace Lw
open Go Go.RowKit Go.Proofs

variable {G : World → Prop}

/-! ### Root, bit by bit -/
def rowR (r : Nat) : D := if r = 0 then .row 0 true [] else rowW (words r)
theorem rowR_pos {r : Nat} (h : 0 < r) : rowR r = rowW (words r) := by unfold rowR; rw [if_neg (by omega)]
theorem rowR_zero : rowR 0 = .row 0 true [] := rfl
def rrtInv (m : Nat) (p : Nat × Nat) : St := lay 44 [(2, .ptr 0 0), (4, rowW (words m)), (5, rowR p.2), (6, int (cnt p.1))] [(0, zeroW)]
theorem cmp_le_true {a b : Nat} (h : a ≤ b) : decide (cmpI a b ≤ 0) = true := by
  unfold cmpI
  split
  · rfl
  · rw [if_neg (by omega)]; rfl
theorem cmp_le_false {a b : Nat} (h : b < a) : decide (cmpI a b ≤ 0) = false := by
  unfold cmpI
  rw [if_neg (by omega), if_pos h]; rfl
theorem bl_len (m : Nat) : bl m ≤ 32 * (words m).length := by
  rcases Nat.eq_zero_or_pos m with h | h
  · subst h; exact Nat.zero_le _
  · have h3 := (len_le_iff m _).1 (Nat.le_refl _)
    rcases Nat.lt_or_ge (32 * (words m).length) (bl m) with q | q
    · have h4 := bl_le (x := m) (by omega)
      rw [BP_two] at h3
      have h5 : 2 ^ (32 * (words m).length) ≤ 2 ^ (bl m - 1) := Nat.pow_le_pow_right (by omega) (by omega)
      omega
    · exact q
/-! ### Of -/
theorem ROf_neg (hG : Steady G) {x : Nat} (h0 : 0 < x) (h : x ≤ 9223372036854775808) : Spec Tryz.prog G 169 [int (-(x : Int))] (W (-(x : Int))) := by
  have hw := rform_any (G := G) hG true (l := [x % 4294967296, x / 4294967296]) (two_dig (by omega)) (by simp)
  rw [two_words] at hw
  have e := W_mk' true x
  have e2 : mkI true x = -(x : Int) := rfl
  rw [e2] at e
  rw [e]
  have c1 : IntKind.wrap .u64 (-(x : Int)) = Int.ofNat (18446744073709551616 - x) := by rw [wrap64i]; simp only [Int.ofNat_eq_natCast]; omega
  have c2 : IntKind.wrap .u64 (0 - Int.ofNat (18446744073709551616 - x)) = Int.ofNat x := by rw [wrap64i]; simp only [Int.ofNat_eq_natCast]; omega
  have lt : decide (-(x : Int) < 0) = true := by simp; omega
  exact Spec.of_run hG Tryz.func169 (ro := []) (m := 30)
    [.eq 5 (eq64 c1), .eq 7 (eqB lt), .eq 9 (eq64 c2), .eq 11 (eqB lt), .eq 13 (eq32 (conv32 x)), .eq 15 (eq64 (shr32 x)), .eq 16 (eq32 (x := IntKind.wrap .u32 (Int.ofNat (x / 4294967296))) (y := Int.ofNat (x / 4294967296)) (by rw [conv32, Nat.mod_eq_of_lt (by omega)])), .call hw] (by kernel_rfl)
theorem ROf_pos (hG : Steady G) {x : Nat} (h : x < 9223372036854775808) : Spec Tryz.prog G 169 [int (x : Int)] (W (x : Int)) := by
  have hw := rform_any (G := G) hG false (l := [x % 4294967296, x / 4294967296]) (two_dig (by omega)) (by simp)
  rw [two_words] at hw
  have e := W_mk' false x
  have e2 : mkI false x = (x : Int) := rfl
  rw [e2] at e
  rw [e]
  have lt : decide ((x : Int) < 0) = false := by simp
  exact Spec.of_run hG Tryz.func169 (ro := []) (m := 30)
    [.eq 5 (eq64 (x := IntKind.wrap .u64 (x : Int)) (y := Int.ofNat x) (wrap64 (by omega))), .eq 7 (eqB lt), .eq 11 (eqB lt), .eq 13 (eq32 (conv32 x)), .eq 15 (eq64 (shr32 x)),
     .eq 16 (eq32 (x := IntKind.wrap .u32 (Int.ofNat (x / 4294967296))) (y := Int.ofNat (x / 4294967296)) (by rw [conv32, Nat.mod_eq_of_lt (by omega)])), .call hw] (by kernel_rfl)
theorem ROf_spec (hG : Steady G) {i : Int} (h : -9223372036854775808 ≤ i) (h' : i < 9223372036854775808) : Spec Tryz.prog G 169 [int i] (W i) := by
  by_cases hi : i < 0
  · obtain ⟨x, rfl⟩ : ∃ x : Nat, i = -(x : Int) := ⟨i.natAbs, by omega⟩
    exact ROf_neg hG (by omega) (by omega)
  · obtain ⟨x, rfl⟩ : ∃ x : Nat, i = (x : Int) := ⟨i.natAbs, by omega⟩
    exact ROf_pos hG (by omega)
end Lw
