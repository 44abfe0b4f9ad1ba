/- The steps of the reference's greatest common divisor, in place. No condition. -/
import Derived.Test.YtfdllnbmjlhliaaGreatDoorLwZe
namespace Lw
open Go Go.RowKit Go.Proofs

variable {G : World → Prop}

/-! ### Plain laws -/
theorem first_fail {P : Nat → Prop} : ∀ n, ¬ P n → ∃ T, (∀ t, t < T → P t) ∧ ¬ P T := by
  intro n
  induction n with
  | zero => intro h; exact ⟨0, fun t ht => absurd ht (by omega), h⟩
  | succ n ih =>
    intro h
    by_cases hn : P n
    · by_cases hall : ∀ t, t < n + 1 → P t
      · exact ⟨n + 1, hall, h⟩
      · have : ∃ t, t < n + 1 ∧ ¬ P t := Classical.byContradiction fun hc => hall fun t ht => Classical.byContradiction fun hp => hc ⟨t, ht, hp⟩
        obtain ⟨t, ht, hp⟩ := this
        by_cases hall2 : ∃ s, s < n + 1 ∧ ¬ P s ∧ ∀ r, r < s → P r
        · obtain ⟨s, -, h1, h2⟩ := hall2; exact ⟨s, h2, h1⟩
        · exfalso
          have : ∀ k, ∀ s, s < k → s < n + 1 → P s := by
            intro k
            induction k with
            | zero => intro s hs; omega
            | succ k ihk =>
              intro s hs hsn
              by_cases hps : P s
              · exact hps
              · exact absurd ⟨s, hsn, hps, fun r hr => ihk r (by omega) (by omega)⟩ hall2
          exact hp (this (n + 1) t ht ht)
    · exact ih hn
theorem strip_exists {n : Nat} (h : 0 < n) : ∃ T, (∀ i, i < T → n / 2 ^ i % 2 = 0) ∧ ¬ n / 2 ^ T % 2 = 0 := by
  refine first_fail (P := fun i => n / 2 ^ i % 2 = 0) (bl n - 1) ?_
  have h1 := bl_le (x := n) (by omega)
  have h2 := bl_lt n
  have h3 := bl_pos (x := n) (by omega)
  have h4 : n / 2 ^ (bl n - 1) = 1 := by
    refine Nat.div_eq_of_lt_le (by omega) ?_
    rw [show (1 + 1) * 2 ^ (bl n - 1) = 2 ^ bl n by rw [show bl n = (bl n - 1) + 1 by omega, Nat.pow_succ]; simp only [Nat.add_sub_cancel]; omega]
    exact h2
  show ¬ n / 2 ^ (bl n - 1) % 2 = 0
  rw [h4]; omega
noncomputable def tz (n : Nat) : Nat := if h : 0 < n then Classical.choose (strip_exists h) else 0
theorem tz_even {n : Nat} (h : 0 < n) {i : Nat} (hi : i < tz n) : n / 2 ^ i % 2 = 0 := by
  unfold tz at hi
  rw [dif_pos h] at hi
  exact (Classical.choose_spec (strip_exists h)).1 i hi
theorem tz_odd {n : Nat} (h : 0 < n) : n / 2 ^ tz n % 2 = 1 := by
  unfold tz
  rw [dif_pos h]
  have := (Classical.choose_spec (strip_exists h)).2
  omega
noncomputable def oddp (n : Nat) : Nat := n / 2 ^ tz n
theorem oddp_pos {n : Nat} (h : 0 < n) : 0 < oddp n := by
  have := tz_odd h
  unfold oddp
  rcases Nat.eq_zero_or_pos (n / 2 ^ tz n) with e | e
  · rw [e] at this; omega
  · exact e
theorem oddp_le (n : Nat) : oddp n ≤ n := Nat.div_le_self _ _
theorem half_step (a i : Nat) : a / 2 ^ (i + 1) = a / 2 ^ i / 2 := by rw [Nat.pow_succ, ← Nat.div_div_eq_div_mul]
theorem gcd_strip {a b : Nat} (h : Nat.gcd a b % 2 = 1) : ∀ i, (∀ k, k < i → a / 2 ^ k % 2 = 0) → Nat.gcd (a / 2 ^ i) b = Nat.gcd a b
  | 0, _ => by rw [Nat.pow_zero, Nat.div_one]
  | i + 1, hk => by
    have ih := gcd_strip h i fun k hki => hk k (by omega)
    have e : a / 2 ^ i = 2 * (a / 2 ^ (i + 1)) := by rw [half_step]; have := hk i (by omega); omega
    rw [e] at ih
    rw [← ih]
    exact gcd_half (by rw [ih]; exact h)
theorem gcd_oddp {a b : Nat} (ha : 0 < a) (h : Nat.gcd a b % 2 = 1) : Nat.gcd (oddp a) b = Nat.gcd a b := gcd_strip h _ fun _ hk => tz_even ha hk
structure GS where
  sw : Bool
  a : Nat
  b : Nat
noncomputable def GS.next (s : GS) : GS := if oddp s.a < oddp s.b then ⟨!s.sw, oddp s.b - oddp s.a, oddp s.a⟩ else ⟨s.sw, oddp s.a - oddp s.b, oddp s.b⟩
theorem GS.next_gcd {s : GS} (ha : 0 < s.a) (hb : 0 < s.b) (h : Nat.gcd s.a s.b % 2 = 1) : Nat.gcd s.next.a s.next.b = Nat.gcd s.a s.b ∧ 0 < s.next.b ∧ s.next.a + s.next.b < s.a + s.b := by
  have e1 := gcd_oddp ha h
  have e2 : Nat.gcd (oddp s.a) (oddp s.b) = Nat.gcd s.a s.b := by
    rw [← e1, Nat.gcd_comm (oddp s.a) s.b, ← gcd_oddp hb (by rw [Nat.gcd_comm, e1]; exact h), Nat.gcd_comm]
  have p1 := oddp_pos ha
  have p2 := oddp_pos hb
  have l1 := oddp_le s.a
  have l2 := oddp_le s.b
  unfold GS.next
  split
  · rename_i hlt
    refine ⟨?_, p1, ?_⟩
    · show Nat.gcd (oddp s.b - oddp s.a) (oddp s.a) = _
      rw [gcd_less (Nat.le_of_lt hlt), Nat.gcd_comm, e2]
    · show oddp s.b - oddp s.a + oddp s.a < _; omega
  · rename_i hlt
    refine ⟨?_, p2, ?_⟩
    · show Nat.gcd (oddp s.a - oddp s.b) (oddp s.b) = _
      rw [gcd_less (by omega), e2]
    · show oddp s.a - oddp s.b + oddp s.b < _; omega
noncomputable def GS.nth (s : GS) : Nat → GS
  | 0 => s
  | i + 1 => (s.nth i).next
/-- Where each number lies, and how far it reaches. -/
def GS.fits (N0 N1 : Nat) (s : GS) : Prop := (words (cond s.sw s.b s.a)).length ≤ N0 ∧ (words (cond s.sw s.a s.b)).length ≤ N1
theorem GS.next_fits {N0 N1 : Nat} {s : GS} (h : s.fits N0 N1) : s.next.fits N0 N1 := by
  have l1 := len_mono (oddp_le s.a)
  have l2 := len_mono (oddp_le s.b)
  have l3 := len_mono (Nat.sub_le (oddp s.a) (oddp s.b))
  have l4 := len_mono (Nat.sub_le (oddp s.b) (oddp s.a))
  obtain ⟨sw, a, b⟩ := s
  unfold GS.fits GS.next at *
  simp only at l1 l2 l3 l4
  by_cases hlt : oddp a < oddp b
  · simp only [if_pos hlt]
    cases sw <;> simp only [cond, Bool.not_false, Bool.not_true] at h ⊢ <;> omega
  · simp only [if_neg hlt]
    cases sw <;> simp only [cond] at h ⊢ <;> omega
theorem GS.run {s : GS} (hb : 0 < s.b) (h : Nat.gcd s.a s.b % 2 = 1) (i : Nat) (hi : ∀ t, t < i → 0 < (s.nth t).a) : 0 < (s.nth i).b ∧ Nat.gcd (s.nth i).a (s.nth i).b = Nat.gcd s.a s.b ∧ (s.nth i).a + (s.nth i).b + i ≤ s.a + s.b := by
  induction i with
  | zero => exact ⟨hb, rfl, Nat.le_refl _⟩
  | succ i ih =>
    obtain ⟨q1, q2, q3⟩ := ih fun t ht => hi t (by omega)
    obtain ⟨n1, n2, n3⟩ := GS.next_gcd (hi i (by omega)) q1 (by rw [q2]; exact h)
    exact ⟨n2, by show Nat.gcd (s.nth i).next.a (s.nth i).next.b = _; rw [n1, q2], by show (s.nth i).next.a + (s.nth i).next.b + (i + 1) ≤ _; omega⟩
theorem GS.stops {s : GS} (hb : 0 < s.b) (h : Nat.gcd s.a s.b % 2 = 1) : ∃ T, (∀ t, t < T → 0 < (s.nth t).a) ∧ (s.nth T).a = 0 := by
  by_cases hall : ∀ t, t < s.a + s.b + 1 → 0 < (s.nth t).a
  · have := (GS.run hb h _ hall).2.2; omega
  · have : ∃ n, ¬ 0 < (s.nth n).a := Classical.byContradiction fun hc => hall fun t _ => Classical.byContradiction fun hp => hc ⟨t, hp⟩
    obtain ⟨n, hn⟩ := this
    obtain ⟨T, h1, h2⟩ := first_fail (P := fun t => 0 < (s.nth t).a) n hn
    exact ⟨T, h1, by omega⟩

/-! ### Cells and rows -/
def blk2 (p : Bool) (c o : List D) : List (Nat × List D) := [(0, cond p o c), (1, cond p c o)]
def dcel (N x : Nat) : List D := (digs N x).map u32
theorem dcel_len (N x : Nat) : (dcel N x).length = N := by unfold dcel; rw [List.length_map, digs_len]
theorem dcel_cel (N x : Nat) : cel N (fun j => x / BP j % 4294967296) = dcel N x := cel_digs N x
theorem dcel_row {N x : Nat} (h : (words x).length ≤ N) : D.row (words x).length false ((dcel N x).take ((words x).length * 1)) = rowW (words x) := by
  unfold rowW dcel
  rw [Nat.mul_one, ← List.map_take, digs_take h, ← words_digs_self]
theorem dcel_get {N x k : Nat} (h : k < N) : ((dcel N x).drop k).headD .any = u32 (x / BP k % 4294967296) := by rw [← dcel_cel]; exact cel_getD h
theorem at_part (hG : Steady G) {N n i : Nat} {f : Nat → Nat} (hf : ∀ j, f j < 4294967296) (hn : n ≤ N) :
    Spec Tryz.prog G 147 [.row n false ((cel N f).take (n * 1)), nat i] (u64 (if i < n then f i else 0)) := by
  have h := at_spec (G := G) hG ((List.range n).map f) (fun x hx => by simp only [List.mem_map] at hx; obtain ⟨j, -, rfl⟩ := hx; exact hf j) i
  have e : rowW ((List.range n).map f) = .row n false ((cel N f).take (n * 1)) := by
    unfold rowW cel
    rw [Nat.mul_one, ← List.map_take, List.take_range, Nat.min_eq_left hn]
    simp
  have e2 : ((List.range n).map f).getD i 0 = if i < n then f i else 0 := by
    by_cases hi : i < n
    · simp [List.getD_eq_getElem?_getD, hi]
    · simp [List.getD_eq_getElem?_getD, hi]
  rw [e, e2] at h
  exact h

/-! ### cut -/
def cutInv (p : Bool) (N y : Nat) (o : List D) (k : Nat) : St := lay 21 [(0, .gsl (cond p 1 0) k 1)] (blk2 p (dcel N y) o)
theorem cut_round (hG : Steady G) {p : Bool} {N y k : Nat} {o : List D} (hk : k < N) (hN : N < 2 ^ 40) (hw : (words y).length ≤ k) :
    Goes Tryz.prog G 2 (loopOf Tryz.f145 0) (cutInv p N y o (k + 1)) .normal (cutInv p N y o k) := by
  have h40 : (2:Nat) ^ 40 = 1099511627776 := by decide
  have h60 : (2:Nat) ^ 60 = 1152921504606846976 := by decide
  have hz : y / BP k % 4294967296 = 0 := by rw [Nat.div_eq_of_lt ((len_le_iff y k).1 hw)]
  have e1 : IntKind.wrap .i64 (Int.ofNat (k + 1) - 1) = Int.ofNat k := nat_pred (i := k + 1) (by omega) (by omega)
  have g1 : decide (Int.ofNat (k + 1) > 0) = true := by simp only [Int.ofNat_eq_natCast, decide_eq_true_eq]; omega
  have n1 : (0:Int) ≤ Int.ofNat k ∧ Int.ofNat k < ((k + 1 : Nat) : Int) := by simp only [Int.ofNat_eq_natCast]; omega
  have n2 : 0 < 1 ∧ k + 1 ≤ (dcel N y).length := by rw [dcel_len]; omega
  have n3 : (0:Int) ≤ Int.ofNat k ∧ Int.ofNat k ≤ ((k + 1 : Nat) : Int) := by simp only [Int.ofNat_eq_natCast]; omega
  have p1 : D.ptr (cond p 1 0) ((Int.ofNat k).toNat * 1) = .ptr (cond p 1 0) k := by simp
  have e13 : (Int.ofNat (y / BP k % 4294967296) == 0) = true := by rw [hz]; rfl
  cases p <;> exact Goes.of_run hG (ro := []) (m := 30) (lay_len ..)
    [.eq 5 (eqB g1), .eq 10 (eqS e1), .prop n1, .eq 11 p1, .prop n2, .eq 12 (dcel_get (N := N) (x := y) hk), .eq 13 (eqB e13), .eq 18 (eqS e1), .prop n3] (by kernel_rfl)
theorem cut_last (hG : Steady G) {p : Bool} {N y : Nat} {o : List D} (hk : (words y).length ≤ N) (hN : N < 2 ^ 40) :
    Goes Tryz.prog G 2 (loopOf Tryz.f145 0) (cutInv p N y o (words y).length) (.exit 0) (cutInv p N y o (words y).length) := by
  have h40 : (2:Nat) ^ 40 = 1099511627776 := by decide
  have h60 : (2:Nat) ^ 60 = 1152921504606846976 := by decide
  rcases Nat.eq_zero_or_pos y with h | h
  · subst h
    have g1 : decide (Int.ofNat (words 0).length > 0) = false := rfl
    cases p <;> exact Goes.of_run hG (ro := []) (m := 30) (lay_len ..) [.eq 5 (eqB g1)] (by kernel_rfl)
  · have hp := words_len_pos (n := y) (by omega)
    have hz := words_last (n := y) (by omega)
    rw [words_getD] at hz
    have g1 : decide (Int.ofNat (words y).length > 0) = true := by simp only [Int.ofNat_eq_natCast, decide_eq_true_eq]; omega
    have e1 : IntKind.wrap .i64 (Int.ofNat (words y).length - 1) = Int.ofNat ((words y).length - 1) := nat_pred (i := (words y).length) (by omega) hp
    have n1 : (0:Int) ≤ Int.ofNat ((words y).length - 1) ∧ Int.ofNat ((words y).length - 1) < ((words y).length : Int) := by simp only [Int.ofNat_eq_natCast]; omega
    have n2 : 0 < 1 ∧ (words y).length - 1 + 1 ≤ (dcel N y).length := by rw [dcel_len]; omega
    have p1 : D.ptr (cond p 1 0) ((Int.ofNat ((words y).length - 1)).toNat * 1) = .ptr (cond p 1 0) ((words y).length - 1) := by simp
    have e13 : (Int.ofNat (y / BP ((words y).length - 1) % 4294967296) == 0) = false := by rw [beq_eq_false_iff_ne]; simp only [Int.ofNat_eq_natCast]; omega
    have c1 := dcel_get (N := N) (x := y) (k := (words y).length - 1) (by omega)
    cases p <;> exact Goes.of_run hG (ro := []) (m := 30) (lay_len ..)
      [.eq 5 (eqB g1), .eq 10 (eqS e1), .prop n1, .eq 11 p1, .prop n2, .eq 12 c1, .eq 13 (eqB e13)] (by kernel_rfl)
theorem cut_loop (hG : Steady G) (p : Bool) {N y n : Nat} (o : List D) (hn : n ≤ N) (hN : N < 2 ^ 40) (hw : (words y).length ≤ n) :
    Abs Tryz.prog G 21 2 (.loop (loopOf Tryz.f145 0)) (lay 21 [(0, .gsl (cond p 1 0) n 1)] (blk2 p (dcel N y) o)) (.exit 0) (cutInv p N y o (words y).length) := by
  refine Abs.rounds (fun k : Nat => k ≤ N ∧ (words y).length ≤ k) (cutInv p N y o) (fun k => k) (fun m => lay_len _ _ _) (by simp) (fun k hk => ?_) n ⟨hn, hw⟩
  obtain ⟨h1, h2⟩ := hk
  rcases Nat.eq_or_lt_of_le h2 with h | h
  · right; subst h; exact cut_last hG h1 hN
  · left
    obtain ⟨k', rfl⟩ : ∃ k', k = k' + 1 := ⟨k - 1, by omega⟩
    exact ⟨k', ⟨by omega, by omega⟩, by omega, cut_round hG (by omega) hN (by omega)⟩
end Lw
