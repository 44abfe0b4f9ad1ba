/- The walks of sums and differences of words. No condition. -/
import Derived.Test.YtfdllnbmjlhliaaGreatDoorLwL
import Derived.Test.YtfdllnbmjlhliaaGreatDoorLwM
namespace Lw
open Go Go.RowKit Go.Proofs

variable {G : World → Prop}

/-! ### Rows of cells that are filled. -/
def cel (N : Nat) (f : Nat → Nat) : List D := (List.range N).map fun j => u32 (f j)
theorem cel_len (N : Nat) (f : Nat → Nat) : (cel N f).length = N := by simp [cel]
theorem cel_congr {N : Nat} {f g : Nat → Nat} (h : ∀ j, j < N → f j = g j) : cel N f = cel N g := List.map_congr_left fun j hj => by rw [h j (by simpa using hj)]
theorem cel_zero (N : Nat) : List.replicate N (u32 0) = cel N (fun _ => 0) := by
  apply List.ext_getElem
  · simp [cel]
  · intro i h1 h2; simp [cel]
theorem splice_cel {N i : Nat} (f : Nat → Nat) (v : Nat) (h : i < N) : splice (cel N f) i [u32 v] = cel N (fun j => if j = i then v else f j) := by
  apply List.ext_getElem?
  intro k
  simp only [splice, cel, List.length_singleton]
  by_cases h1 : k < i
  · rw [List.getElem?_append_left (by simp; omega), List.getElem?_take, if_pos h1]
    have : k < N := by omega
    simp [this, Nat.ne_of_lt h1]
  · by_cases h2 : k = i
    · subst h2
      rw [List.getElem?_append_right (by simp; omega)]
      simp [h, Nat.min_eq_left (Nat.le_of_lt h)]
    · rw [List.getElem?_append_right (by simp; omega)]
      have e : k - ((List.map (fun j => u32 (f j)) (List.range N)).take i).length = (k - i - 1) + 1 := by simp; omega
      rw [e, List.singleton_append, List.getElem?_cons_succ, List.getElem?_drop]
      have e2 : i + 1 + (k - i - 1) = k := by omega
      rw [e2]
      by_cases h3 : k < N
      · simp [h3, h2]
      · simp [h3]
theorem cel_digs (N s : Nat) : cel N (fun j => s / BP j % 4294967296) = (digs N s).map u32 := by simp [cel, digs]
theorem cel_getD {N : Nat} {f : Nat → Nat} {i : Nat} (h : i < N) : ((cel N f).drop i).headD .any = u32 (f i) := by
  rw [List.headD_eq_head?_getD, List.head?_drop]; simp [cel, h]
theorem cel_row (N s : Nat) : D.row N false (((cel N (fun j => s / BP j % 4294967296)).drop 0).take N) = rowW (digs N s) := by
  rw [cel_digs, List.drop_zero, List.take_of_length_le (by simp [digs_len])]
  unfold rowW; rw [digs_len]
theorem words_digs {N s : Nat} (h : s < BP N) : words (val (digs N s)) = words s := by rw [val_digs h]
theorem fdiv_pow (s k : Nat) : (Int.ofNat s).fdiv (2 ^ k) = Int.ofNat (s / 2 ^ k) := by
  have e : (2:Int) ^ k = Int.ofNat (2 ^ k) := by simp
  rw [e]; exact (Int.ofNat_fdiv s (2 ^ k)).symm
theorem shr32 (s : Nat) : (Int.ofNat s).fdiv (2 ^ min (Int.toNat 32) (IntKind.bits .u64)) = Int.ofNat (s / 4294967296) := by
  rw [show min (Int.toNat 32) (IntKind.bits .u64) = 32 by decide, fdiv_pow]
theorem shr63 (s : Nat) : (Int.ofNat s).fdiv (2 ^ min (Int.toNat 63) (IntKind.bits .u64)) = Int.ofNat (s / 9223372036854775808) := by
  rw [show min (Int.toNat 63) (IntKind.bits .u64) = 63 by decide, fdiv_pow]
theorem nat_succ {i : Nat} (h : i < 2 ^ 60) : IntKind.wrap .i64 (Int.ofNat i + 1) = Int.ofNat (i + 1) := by
  have h60 : (2:Nat) ^ 60 = 1152921504606846976 := by decide
  rw [wrapS (by simp; omega) (by simp; omega)]; simp
theorem nat_pred {i : Nat} (h : i < 2 ^ 60) (h0 : 0 < i) : IntKind.wrap .i64 (Int.ofNat i - 1) = Int.ofNat (i - 1) := by
  have h60 : (2:Nat) ^ 60 = 1152921504606846976 := by decide
  rw [wrapS (by simp; omega) (by simp; omega)]; simp; omega
theorem lt_true {i N : Nat} (h : i < N) : decide (Int.ofNat i < Int.ofNat N) = true := by simpa using h
theorem lt_false {i N : Nat} (h : N ≤ i) : decide (Int.ofNat i < Int.ofNat N) = false := by simpa using h
theorem ptr_at (b i : Nat) : D.ptr b (0 + (Int.ofNat i).toNat * 1) = .ptr b i := by simp
theorem ix_need {i N : Nat} (h : i < N) : (0:Int) ≤ Int.ofNat i ∧ Int.ofNat i < (N : Int) := by simp; omega
theorem make_need {N : Nat} (h : N ≤ 2 ^ 40) : Int.ofNat N = Int.ofNat N ∧ 0 ≤ Int.ofNat N ∧ Int.ofNat N * 4 ≤ 2 ^ 47 ∧ Int.ofNat N ≤ 2 ^ 62 := by
  have h40 : (2:Nat) ^ 40 = 1099511627776 := by decide
  have h47 : (2:Int) ^ 47 = 140737488355328 := by decide
  have h62 : (2:Int) ^ 62 = 4611686018427387904 := by decide
  rw [h47, h62]; simp; omega

/-! ### plus -/
def plusF (a b i j : Nat) : Nat := if j < i then (a + b) / BP j % 4294967296 else 0
def plusN (l m : List Nat) : Nat := max l.length m.length + 1
def plusInv (l m : List Nat) (i : Nat) : St :=
  lay 39 [(0, rowW l), (1, rowW m), (5, .slc 0 0 (plusN l m) (plusN l m)), (6, u64 (cAdd (val l) (val m) i)), (16, nat (plusN l m)), (17, nat i)] [(0, cel (plusN l m) (plusF (val l) (val m) i))]
theorem plus_round (hG : Steady G) {l m : List Nat} (hl : Dig l) (hm : Dig m) {i : Nat} (hi : i < plusN l m) (hb : plusN l m < 2 ^ 60) :
    Goes Tryz.prog G 0 (loopOf Tryz.f106 0) (plusInv l m i) .normal (plusInv l m (i + 1)) := by
  have hs := cAdd_step (val l) (val m) i
  have hd := cAdd_dig (val l) (val m) i
  rw [← getD_val hl, ← getD_val hm] at hs hd
  have h1 := hl.getD i
  have h2 := hm.getD i
  have h3 := cAdd_le (val l) (val m) i
  have e : plusInv l m (i + 1) = lay 39 [(0, rowW l), (1, rowW m), (5, .slc 0 0 (plusN l m) (plusN l m)), (6, u64 (cAdd (val l) (val m) (i + 1))), (16, nat (plusN l m)), (17, nat (i + 1))]
      [(0, splice (cel (plusN l m) (plusF (val l) (val m) i)) i [u32 ((val l + val m) / BP i % 4294967296)])] := by
    rw [splice_cel _ _ hi]
    unfold plusInv
    congr 3
    refine cel_congr fun j hj => ?_
    unfold plusF
    by_cases hji : j = i
    · subst hji; simp
    · rw [if_neg hji]; by_cases h : j < i
      · rw [if_pos h, if_pos (by omega)]
      · rw [if_neg h, if_neg (by omega)]
  rw [e]
  exact Goes.of_run hG (ro := []) (m := 30) (lay_len ..)
    [.eq 18 (eqB (lt_true hi)), .call (word_spec hG l hl i), .call (word_spec hG m hm i),
     .eq 27 (eq64 (x := IntKind.wrap .u64 (Int.ofNat (l.getD i 0) + Int.ofNat (m.getD i 0))) (y := Int.ofNat (l.getD i 0 + m.getD i 0)) (wrap64 (n := l.getD i 0 + m.getD i 0) (by omega))),
     .eq 28 (eq64 (x := IntKind.wrap .u64 (Int.ofNat (cAdd (val l) (val m) i) + Int.ofNat (l.getD i 0 + m.getD i 0))) (y := Int.ofNat (cAdd (val l) (val m) i + (l.getD i 0 + m.getD i 0))) (wrap64 (n := cAdd (val l) (val m) i + (l.getD i 0 + m.getD i 0)) (by omega))),
     .eq 32 (eq32 (x := IntKind.wrap .u32 (Int.ofNat (cAdd (val l) (val m) i + (l.getD i 0 + m.getD i 0)))) (y := Int.ofNat ((val l + val m) / BP i % 4294967296)) (by rw [← hd]; exact wrap32)),
     .prop (ix_need hi), .eq 33 (ptr_at 0 i), .prop (p := i + 1 ≤ (cel (plusN l m) (plusF (val l) (val m) i)).length) (by rw [cel_len]; omega),
     .eq 35 (eq64 (x := (Int.ofNat (cAdd (val l) (val m) i + (l.getD i 0 + m.getD i 0))).fdiv (2 ^ min (Int.toNat 32) (IntKind.bits .u64))) (y := Int.ofNat (cAdd (val l) (val m) (i + 1))) (by rw [shr32, ← hs])),
     .eq 36 (eqS (nat_succ (i := i) (by omega)))] (by kernel_rfl)
theorem plus_last (hG : Steady G) {l m : List Nat} : Goes Tryz.prog G 0 (loopOf Tryz.f106 0) (plusInv l m (plusN l m)) (.exit 0) (plusInv l m (plusN l m)) :=
  Goes.of_run hG (ro := []) (m := 30) (lay_len ..) [.eq 18 (eqB (lt_false (Nat.le_refl (plusN l m))))] (by kernel_rfl)
theorem plus_loop (hG : Steady G) {l m : List Nat} (hl : Dig l) (hm : Dig m) (hb : plusN l m < 2 ^ 60) :
    Abs Tryz.prog G 39 0 (.loop (loopOf Tryz.f106 0)) (lay 39 [(0, rowW l), (1, rowW m), (5, .slc 0 0 (plusN l m) (plusN l m)), (6, u64 0), (16, nat (plusN l m)), (17, nat 0)] [(0, List.replicate (plusN l m) (u32 0))]) (.exit 0)
      (plusInv l m (plusN l m)) := by
  have h := Abs.count (plusInv l m) (plusN l m) (fun i => lay_len _ _ _) (by simp) (fun i hi => plus_round hG hl hm hi hb) (plus_last hG)
  have e : plusInv l m 0 = lay 39 [(0, rowW l), (1, rowW m), (5, .slc 0 0 (plusN l m) (plusN l m)), (6, u64 0), (16, nat (plusN l m)), (17, nat 0)] [(0, List.replicate (plusN l m) (u32 0))] := by
    rw [cel_zero]; unfold plusInv; rw [cAdd_zero]; congr 3
  rw [e] at h; exact h
theorem max_len (l m : List Nat) : (if Int.ofNat m.length > Int.ofNat l.length then Int.ofNat m.length else Int.ofNat l.length) = Int.ofNat (max l.length m.length) := by
  split
  · rename_i h; simp at h; rw [Nat.max_eq_right (by omega)]
  · rename_i h; simp at h; rw [Nat.max_eq_left (by omega)]
theorem plus_fits {l m : List Nat} (hl : Dig l) (hm : Dig m) : val l + val m < BP (plusN l m) := by
  have h1 := val_lt hl
  have h2 := val_lt hm
  have h3 : BP l.length ≤ BP (max l.length m.length) := BP_mono (Nat.le_max_left _ _)
  have h4 : BP m.length ≤ BP (max l.length m.length) := BP_mono (Nat.le_max_right _ _)
  unfold plusN
  rw [BP_succ]; omega
/-- A sum of words. -/
theorem plus_spec (hG : Steady G) {l m : List Nat} (hl : Dig l) (hm : Dig m) (h1 : l.length ≤ 2 ^ 36) (h2 : m.length ≤ 2 ^ 36) :
    Spec Tryz.prog G 106 [rowW l, rowW m] (rowW (words (val l + val m))) := by
  have h36 : (2:Nat) ^ 36 = 68719476736 := by decide
  have h40 : (2:Nat) ^ 40 = 1099511627776 := by decide
  have hN : plusN l m ≤ 2 ^ 40 := by unfold plusN; omega
  have hfit := plus_fits hl hm
  have ht := trim_spec (G := G) hG (l := digs (plusN l m) (val l + val m)) (digs_dig _ _) (by rw [digs_len]; exact hN)
  rw [words_digs hfit] at ht
  refine Spec.of_run hG Tryz.func106 (ro := []) (m := 30) (args := [rowW l, rowW m])
    [.eq 12 (eqS (max_len l m)), .eq 13 (eqS (nat_succ (i := max l.length m.length) (by omega))), .prop (make_need hN), .code (plus_loop hG hl hm (by omega)), .freeze 0,
     .eq 37 (d := D.row (plusN l m) false (((cel (plusN l m) (plusF (val l) (val m) (plusN l m))).drop 0).take (plusN l m))) (d' := rowW (digs (plusN l m) (val l + val m))) ?_, .call ht] (by kernel_rfl)
  rw [← cel_row]
  congr 3
  exact cel_congr fun j hj => by unfold plusF; rw [if_pos hj]
end Lw
