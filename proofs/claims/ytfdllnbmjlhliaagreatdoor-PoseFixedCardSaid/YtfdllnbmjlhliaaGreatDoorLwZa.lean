/- The contracts of the integers: greatest common divisors, bits, roots. No condition. -/
import Derived.Test.YtfdllnbmjlhliaaGreatDoorLwZ
namespace Lw
open Go Go.RowKit Go.Proofs

variable {G : World → Prop}

/-- The number of an error as an error. -/
def errno (k : Int) : D := .lit (.iface 46 (.int .i64 k))
def zeroW : List D := [bool false, rowW []]

/-! ### Gcd -/
def gcdInv (p : Nat × Nat) : St := lay 26 [(4, .ptr 0 0), (5, rowW (words p.1)), (6, rowW (words p.2))] [(0, zeroW)]
theorem gcd_round (hG : Steady G) {p : Nat × Nat} (hp : 0 < p.2) (h1 : (words p.1).length ≤ 2 ^ 36) (h2 : (words p.2).length ≤ 2 ^ 36) :
    Goes Tryz.prog G 0 (loopOf Tryz.f104 0) (gcdInv p) .normal (gcdInv (p.2, p.1 % p.2)) :=
  Goes.of_run hG (ro := []) (m := 30) (lay_len ..)
    [.eq 15 (eqB (x := decide (Int.ofNat (words p.2).length > 0)) (y := true) (by rw [len_pos_dec]; exact decide_eq_true hp)), .call (divide_words hG hp h1 h2)] (by kernel_rfl)
theorem gcd_last (hG : Steady G) (g : Nat) : Goes Tryz.prog G 0 (loopOf Tryz.f104 0) (gcdInv (g, 0)) (.exit 0) (gcdInv (g, 0)) :=
  Goes.of_run hG (ro := []) (m := 30) (lay_len ..) [] (by kernel_rfl)
theorem gcd_loop (hG : Steady G) {a b : Nat} (h1 : (words a).length ≤ 2 ^ 36) (h2 : (words b).length ≤ 2 ^ 36) :
    Abs Tryz.prog G 26 0 (.loop (loopOf Tryz.f104 0)) (lay 26 [(4, .ptr 0 0), (5, rowW (words a)), (6, rowW (words b))] [(0, zeroW)]) (.exit 0) (gcdInv (Nat.gcd a b, 0)) := by
  refine Abs.rounds (fun p : Nat × Nat => Nat.gcd p.1 p.2 = Nat.gcd a b ∧ (words p.1).length ≤ 2 ^ 36 ∧ (words p.2).length ≤ 2 ^ 36) gcdInv (fun p => p.2) (fun p => lay_len _ _ _) (by simp) (fun p hp => ?_) (a, b) ⟨rfl, h1, h2⟩
  obtain ⟨x, y⟩ := p
  obtain ⟨e, q1, q2⟩ := hp
  rcases Nat.eq_zero_or_pos y with h | h
  · right
    subst h
    have : x = Nat.gcd a b := by rw [← e]; exact (Nat.gcd_zero_right x).symm
    subst this
    exact gcd_last hG _
  · left
    refine ⟨(y, x % y), ⟨?_, q2, ?_⟩, Nat.mod_lt _ h, gcd_round hG h q1 q2⟩
    · show Nat.gcd y (x % y) = _
      rw [← e, Nat.gcd_comm x y, Nat.gcd_rec y x, Nat.gcd_comm]
    · exact Nat.le_trans (len_mono (Nat.mod_le _ _)) q1
theorem len_gcd {a b k : Nat} (ha : (words a).length ≤ k) (hb : (words b).length ≤ k) : (words (Nat.gcd a b)).length ≤ k := by
  rcases Nat.eq_zero_or_pos a with h | h
  · subst h; rw [Nat.gcd_zero_left]; exact hb
  · exact Nat.le_trans (len_mono (Nat.gcd_le_left b h)) ha
theorem Gcd_spec (hG : Steady G) {i j : Int} (hi : SzI i) (hj : SzI j) : Spec Tryz.prog G 104 [W i, W j] (W ((Int.gcd i j : Nat) : Int)) := by
  obtain ⟨s, m, rfl, hs, hm⟩ := mk_of i
  obtain ⟨t, n, rfl, ht, hn⟩ := mk_of j
  unfold SzI at hi hj
  rw [← hm] at hi
  rw [← hn] at hj
  rw [W_mk hs, W_mk ht, W_nat]
  have e : Int.gcd (mkI s m) (mkI t n) = Nat.gcd m n := by unfold Int.gcd; rw [← hm, ← hn]
  rw [e]
  exact Spec.of_run hG Tryz.func104 (ro := [2, 3]) (m := 30)
    [.call (mag_spec hG hs hi.le36), .call (mag_spec hG ht hj.le36), .code (gcd_loop hG hi.le36 hj.le36), .call (whole_spec hG false (len_gcd hi.le36 hj.le36))] (by kernel_rfl)

/-! ### Bits -/
theorem bl_words {n : Nat} (h : 0 < n) : bl n = 32 * ((words n).length - 1) + bl ((words n).getD ((words n).length - 1) 0) := by
  obtain ⟨k, hk⟩ : ∃ k, (words n).length = k + 1 := ⟨(words n).length - 1, by
    have : (words n).length ≠ 0 := fun e => by
      have h1 := List.eq_nil_of_length_eq_zero e
      have := val_words n; rw [h1] at this; have h0 : val [] = 0 := rfl; omega
    omega⟩
  have h1 : n < BP (k + 1) := (len_le_iff n _).1 (by omega)
  have h2 : BP k ≤ n := by
    rcases Nat.lt_or_ge n (BP k) with q | q
    · have := (len_le_iff n k).2 q; omega
    · exact q
  rw [hk, Nat.add_sub_cancel, words_getD]
  have hBP : BP k = 2 ^ (32 * k) := by rw [Nat.pow_mul]; rfl
  have h3 : n / BP k % 4294967296 = n / BP k := Nat.mod_eq_of_lt (Nat.div_lt_of_lt_mul (by rw [BP_succ, Nat.mul_comm] at h1; exact h1))
  rw [h3]
  rw [hBP] at h2 ⊢
  rw [bl_shift h2]; omega
/-! ### Root -/
theorem BP_two (i : Nat) : BP i = 2 ^ (32 * i) := by rw [Nat.pow_mul]; rfl
theorem words_digs_self (n : Nat) : words n = digs (words n).length n := by
  refine List.ext_getElem (by rw [digs_len]) fun i h1 h2 => ?_
  have a := words_getD n i
  have b := digs_getD (N := (words n).length) (n := n) h1
  rw [List.getD_eq_getElem?_getD, List.getElem?_eq_getElem h1] at a
  rw [List.getD_eq_getElem?_getD, List.getElem?_eq_getElem h2] at b
  exact a.trans b.symm
theorem words_pow_len (k : Nat) : (words (2 ^ k)).length = k / 32 + 1 := by
  have h1 : (words (2 ^ k)).length ≤ k / 32 + 1 := (len_le_iff _ _).2 (by rw [BP_two]; exact Nat.pow_lt_pow_right (by omega) (by omega))
  have h2 : ¬ (words (2 ^ k)).length ≤ k / 32 := fun h => by
    have := (len_le_iff _ _).1 h
    rw [BP_two] at this
    have h3 : 2 ^ (32 * (k / 32)) ≤ 2 ^ k := Nat.pow_le_pow_right (by omega) (by omega)
    omega
  omega
theorem pow_cells (k : Nat) : cel (k / 32 + 1) (fun j => if j = k / 32 then 2 ^ (k % 32) else 0) = (words (2 ^ k)).map u32 := by
  rw [words_digs_self, words_pow_len, ← cel_digs]
  refine cel_congr fun j hj => ?_
  rw [BP_two, Nat.pow_div (by omega) (by omega)]
  split
  · rename_i h; subst h
    rw [show k - 32 * (k / 32) = k % 32 by omega]
    exact (Nat.mod_eq_of_lt (by have := Nat.pow_lt_pow_right (a := 2) (by omega) (show k % 32 < 32 by omega); have h32 : 2 ^ 32 = 4294967296 := by decide
                                omega)).symm
  · rename_i h
    rw [show k - 32 * j = (k - 32 * j - 32) + 32 by omega, Nat.pow_add]
    show 0 = _ * 4294967296 % 4294967296
    rw [Nat.mul_mod_left]
def rootInv (m : Nat) (x : Nat) : St := lay 52 [(2, .ptr 0 0), (4, rowW (words m)), (6, rowW (words x))] [(0, zeroW)]
noncomputable def rootEnd (m : Nat) : St := lay 52 [(2, .ptr 0 0), (3, .lit .nilIface)] [(0, [bool (false && decide (0 < isq m)), rowW (words (isq m))])]
theorem down_one (hG : Steady G) {a : Nat} (ha : (words a).length ≤ 2 ^ 37) : Spec Tryz.prog G 152 [rowW (words a), int 1] (rowW (words (a / 2))) := by
  have := down_spec (G := G) hG (dig_words a) (n := 1) (by omega) ha
  rw [val_words] at this
  exact this
theorem nat_quo {i c : Nat} (h : i < 2 ^ 60) : IntKind.wrap .i64 ((Int.ofNat i).tdiv (Int.ofNat c)) = Int.ofNat (i / c) := by
  have h60 : (2:Nat) ^ 60 = 1152921504606846976 := by decide
  have e : (Int.ofNat i).tdiv (Int.ofNat c) = Int.ofNat (i / c) := rfl
  have h1 := Nat.div_le_self i c
  generalize i / c = x at *
  rw [e, wrapS (by simp only [Int.ofNat_eq_natCast]; omega) (by simp only [Int.ofNat_eq_natCast]; omega)]
theorem nat_rem (i c : Nat) : (Int.ofNat i).tmod (Int.ofNat c) = Int.ofNat (i % c) := rfl
theorem shl_one {k : Nat} (h : k < 32) : IntKind.wrap .u32 (1 * 2 ^ min (Int.ofNat k).toNat (IntKind.bits .u32)) = Int.ofNat (2 ^ k) := by
  have e : min (Int.ofNat k).toNat (IntKind.bits .u32) = k := by
    show min k 32 = k
    omega
  rw [e, Int.one_mul, wrap32i]
  have h2 : 2 ^ k < 2 ^ 32 := Nat.pow_lt_pow_right (by omega) h
  have h32 : (2:Nat) ^ 32 = 4294967296 := by decide
  have : ((2:Int) ^ k) = ((2 ^ k : Nat) : Int) := by rw [Int.natCast_pow]; rfl
  rw [this]
  generalize 2 ^ k = x at *
  simp only [Int.ofNat_eq_natCast]
  omega
theorem pow_row (k : Nat) : D.row (k / 32 + 1) false (((splice (List.replicate (k / 32 + 1) (u32 0)) (k / 32) [u32 (2 ^ (k % 32))]).drop 0).take (k / 32 + 1)) = rowW (words (2 ^ k)) := by
  rw [cel_zero, splice_cel _ _ (by omega), pow_cells, List.drop_zero, List.take_of_length_le (by simp [words_pow_len])]
  unfold rowW
  rw [words_pow_len]
theorem cel_splice {N i v : Nat} (h : i < N) : splice (List.replicate N (u32 0)) i [u32 v] = cel N (fun j => if j = i then v else 0) := by
  rw [cel_zero, splice_cel _ _ h]
/-! ### Valid, any words -/
def Full (l : List Nat) : Bool := decide (l = words (val l))
theorem full_nil : Full [] = true := rfl
theorem full_last {l : List Nat} (hl : Dig l) (h : l ≠ []) : Full l = !(l.getD (l.length - 1) 0 == 0) := by
  unfold Full
  by_cases hz : l.getD (l.length - 1) 0 = 0
  · have : ¬ l = words (val l) := fun e => by
      have hv : val l ≠ 0 := fun e0 => by rw [e0] at e; exact h e
      have := words_last hv
      rw [← e] at this
      exact this hz
    rw [decide_eq_false this, hz]; rfl
  · rw [decide_eq_true (words_canon hl (fun _ => hz)).symm]
    have : (l.getD (l.length - 1) 0 == 0) = false := by rw [beq_eq_false_iff_ne]; exact hz
    rw [this]; rfl
theorem Valid_raw (hG : Steady G) {l : List Nat} (hl : Dig l) (h1 : l.length ≤ 2 ^ 36) : Spec Tryz.prog G 119 [.agg [bool false, rowW l]] (bool (Full l)) := by
  have h36 : (2:Nat) ^ 36 = 68719476736 := by decide
  by_cases h : l = []
  · subst h
    exact Spec.of_run hG Tryz.func119 (ro := [1]) (m := 30) [] (by kernel_rfl)
  · have hp : 0 < l.length := List.length_pos_iff.2 h
    rw [full_last hl h]
    have e1 : (Int.ofNat l.length == 0) = false := by simp; omega
    exact Spec.of_run hG Tryz.func119 (ro := [1]) (m := 30)
      [.eq 6 (eqB e1), .eq 15 (eqS (nat_pred (i := l.length) (by omega) hp)), .prop (at_need (l := l) (i := l.length - 1) (by omega)), .prop (load_need (l := l) (i := l.length - 1) (by omega)), .eq 17 (headD_need (l := l) (i := l.length - 1) (by omega)),
       .eq 18 (eqB (x := (Int.ofNat (l.getD (l.length - 1) 0) != 0)) (y := !(l.getD (l.length - 1) 0 == 0)) (by rw [Bool.eq_iff_iff]; simp))] (by kernel_rfl)
end Lw
