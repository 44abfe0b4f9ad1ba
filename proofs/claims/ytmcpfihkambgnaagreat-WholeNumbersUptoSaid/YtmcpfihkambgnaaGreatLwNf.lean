/- Numbers of towers: common denominators, sizes of sums, products and norms. No condition. -/
import Derived.Test.YtmcpfihkambgnaaGreatLwNd
namespace Lw
namespace Fld

/-- The fractions of a list have the common denominator D, and their numerators over it are at most B. -/
def Ms (D B : Nat) (l : List Rat) : Prop := ∀ i, ∃ z : Int, l.getD i 0 * (D : Rat) = (z : Rat) ∧ z.natAbs ≤ B
theorem Ms.nil (D B : Nat) : Ms D B [] := fun i => ⟨0, by simp, by simp⟩
theorem Ms.mono {D B C : Nat} {l : List Rat} (h : Ms D B l) (hb : B ≤ C) : Ms D C l := fun i => by
  obtain ⟨z, h1, h2⟩ := h i
  exact ⟨z, h1, Nat.le_trans h2 hb⟩
theorem Ms.scale {D B : Nat} {l : List Rat} (h : Ms D B l) (E : Nat) : Ms (D * E) (B * E) l := fun i => by
  obtain ⟨z, h1, h2⟩ := h i
  refine ⟨z * E, ?_, ?_⟩
  · push_cast
    rw [← h1, Rat.mul_assoc]
  · rw [Int.natAbs_mul, Int.natAbs_natCast]
    exact Nat.mul_le_mul_right _ h2
theorem Ms.part {D B : Nat} {a b : List Rat} (h : Ms D B a) (g : ∀ i, b.getD i 0 = 0 ∨ ∃ j, b.getD i 0 = a.getD j 0) : Ms D B b := fun i => by
  rcases g i with g | ⟨j, g⟩
  · exact ⟨0, by rw [g]; simp, by simp⟩
  · rw [g]; exact h j
theorem Ms.take {D B : Nat} {a : List Rat} (h : Ms D B a) (n : Nat) : Ms D B (a.take n) := h.part fun i => by
  simp only [List.getD_eq_getElem?_getD, List.getElem?_take]
  split
  · exact .inr ⟨i, rfl⟩
  · exact .inl rfl
theorem Ms.drop {D B : Nat} {a : List Rat} (h : Ms D B a) (n : Nat) : Ms D B (a.drop n) := h.part fun i => .inr ⟨n + i, by
  simp only [List.getD_eq_getElem?_getD, List.getElem?_drop]⟩
theorem Ms.plus {D B C : Nat} {a b : List Rat} (ha : Ms D B a) (hb : Ms D C b) : Ms D (B + C) (plusL a b) := fun i => by
  obtain ⟨z, h1, h2⟩ := ha i
  obtain ⟨y, h3, h4⟩ := hb i
  refine ⟨z + y, ?_, ?_⟩
  · rw [plusL_getD, Rat.intCast_add, ← h1, ← h3]; grind
  · omega
theorem Ms.minus {D B : Nat} {a : List Rat} (ha : Ms D B a) : Ms D B (minusL a) := fun i => by
  obtain ⟨z, h1, h2⟩ := ha i
  refine ⟨-z, ?_, by omega⟩
  rw [minusL_getD, Rat.intCast_neg, ← h1]; grind
theorem getD_app (a b : List Rat) (i : Nat) : (a ++ b).getD i 0 = if i < a.length then a.getD i 0 else b.getD (i - a.length) 0 := by
  simp only [List.getD_eq_getElem?_getD, List.getElem?_append]
  split <;> rfl
theorem Ms.join {D B : Nat} {a b : List Rat} (ha : Ms D B a) (hb : Ms D B b) (n : Nat) : Ms D B (joinL a b n) := fun i => by
  unfold joinL
  rw [getD_app]
  split
  · rw [wideL_getD]
    split
    · exact ha i
    · exact ⟨0, by simp, by simp⟩
  · rw [wideL_getD]
    split
    · exact hb _
    · exact ⟨0, by simp, by simp⟩
theorem Ms.one {D E B C : Nat} {a b : List Rat} (ha : Ms D B a) (hb : Ms E C b) (i j : Nat) : Ms (D * E) (B * C) [a.getD i 0 * b.getD j 0] := fun k => by
  cases k with
  | zero =>
    obtain ⟨z, h1, h2⟩ := ha i
    obtain ⟨y, h3, h4⟩ := hb j
    refine ⟨z * y, ?_, ?_⟩
    · show a.getD i 0 * b.getD j 0 * _ = _
      push_cast
      rw [← h1, ← h3]; grind
    · rw [Int.natAbs_mul]; exact Nat.mul_le_mul h2 h4
  | succ k => exact ⟨0, by simp, by simp⟩
theorem Ms.short {D B k : Nat} {a : List Rat} (h : Ms D B a) (hs : Sh k a) : Ms D B (shortL a) := h.part fun i => .inr ⟨i, shortL_getD hs i⟩

/-- How often the roots' denominator is multiplied in. -/
def mkk : Nat → Nat
  | 0 => 0
  | k + 1 => 2 * mkk k + 1
def cc (Δ Β : Nat) : Nat → Nat
  | 0 => 1
  | k + 1 => 2 * cc Δ Β k * Δ ^ (mkk k + 1) + cc Δ Β k * cc Δ Β k * Β
theorem cc_ge (Δ Β : Nat) (h0 : 0 < Δ) : ∀ k, Δ ^ mkk k ≤ cc Δ Β k
  | 0 => by simp [mkk, cc]
  | k + 1 => by
    have ih := cc_ge Δ Β h0 k
    have e : Δ ^ mkk (k + 1) = Δ ^ mkk k * Δ ^ (mkk k + 1) := by rw [← Nat.pow_add]; congr 1; simp only [mkk]; omega
    rw [e]
    simp only [cc]
    have h1 : Δ ^ mkk k * Δ ^ (mkk k + 1) ≤ cc Δ Β k * Δ ^ (mkk k + 1) := Nat.mul_le_mul_right _ ih
    have h2 : 2 * cc Δ Β k * Δ ^ (mkk k + 1) = 2 * (cc Δ Β k * Δ ^ (mkk k + 1)) := Nat.mul_assoc _ _ _
    omega
theorem cc_low (Δ Β k : Nat) : 2 * (cc Δ Β k * Δ ^ (mkk k + 1)) ≤ cc Δ Β (k + 1) := by
  simp only [cc]
  rw [Nat.mul_assoc]; omega
theorem tmsL_ms {t : Tow} {Δ Β : Nat} (h0 : 0 < Δ) (hT : ∀ j, Ms Δ Β (t.getD j [])) : ∀ (k : Nat) (a b : List Rat) (D E B C : Nat), Ms D B a → Ms E C b →
    Ms (D * E * Δ ^ mkk k) (B * C * cc Δ Β k) (tmsL t k a b)
  | 0, a, b, D, E, B, C, ha, hb => by
    unfold tmsL
    split
    · exact .nil _ _
    · simp only [mkk, cc, Nat.pow_zero, Nat.mul_one]
      exact ha.one hb 0 0
  | k + 1, a, b, D, E, B, C, ha, hb => by
    unfold tmsL
    split
    · exact .nil _ _
    · have key : ∀ (p q : List Rat) (D E B C : Nat), Ms D B p → Ms E C q → Ms (D * E * Δ ^ mkk (k + 1)) (B * C * cc Δ Β (k + 1))
          (if p.length = 1 then [p.getD 0 0 * q.getD 0 0] else if q.length ≤ p.length / 2 then joinL (tmsL t k (p.take (p.length / 2)) q) (tmsL t k (p.drop (p.length / 2)) q) (p.length / 2) else
            joinL (plusL (tmsL t k (p.take (p.length / 2)) (q.take (p.length / 2))) (tmsL t k (tmsL t k (p.drop (p.length / 2)) (q.drop (p.length / 2))) (t.getD (Nat.log2 (p.length / 2)) [])))
              (plusL (tmsL t k (p.take (p.length / 2)) (q.drop (p.length / 2))) (tmsL t k (p.drop (p.length / 2)) (q.take (p.length / 2)))) (p.length / 2)) := by
        intro p q D E B C hp hq
        have e1 : D * E * Δ ^ mkk k * Δ ^ (mkk k + 1) = D * E * Δ ^ mkk (k + 1) := by
          rw [Nat.mul_assoc, ← Nat.pow_add]; congr 2; simp only [mkk]; omega
        have low := cc_low Δ Β k
        -- one product, over the greater denominator
        have up : ∀ l : List Rat, Ms (D * E * Δ ^ mkk k) (B * C * cc Δ Β k) l → Ms (D * E * Δ ^ mkk (k + 1)) (B * C * (cc Δ Β k * Δ ^ (mkk k + 1))) l := fun l h => by
          have := h.scale (Δ ^ (mkk k + 1))
          rwa [e1, Nat.mul_assoc (B * C)] at this
        split
        · have h1 := (hp.one hq 0 0).scale (Δ ^ mkk (k + 1))
          exact h1.mono (Nat.mul_le_mul_left _ (cc_ge Δ Β h0 _))
        · split
          · have i1 := up _ (tmsL_ms h0 hT k _ _ D E B C (hp.take (p.length / 2)) hq)
            have i2 := up _ (tmsL_ms h0 hT k _ _ D E B C (hp.drop (p.length / 2)) hq)
            exact (i1.join i2 _).mono (Nat.mul_le_mul_left _ (by omega))
          · have i1 := up _ (tmsL_ms h0 hT k _ _ D E B C (hp.take (p.length / 2)) (hq.take (p.length / 2)))
            have i2 := tmsL_ms h0 hT k _ _ _ _ _ _ (tmsL_ms h0 hT k _ _ D E B C (hp.drop (p.length / 2)) (hq.drop (p.length / 2))) (hT (Nat.log2 (p.length / 2)))
            have i3 := up _ (tmsL_ms h0 hT k _ _ D E B C (hp.take (p.length / 2)) (hq.drop (p.length / 2)))
            have i4 := up _ (tmsL_ms h0 hT k _ _ D E B C (hp.drop (p.length / 2)) (hq.take (p.length / 2)))
            have e2 : D * E * Δ ^ mkk k * Δ * Δ ^ mkk k = D * E * Δ ^ mkk (k + 1) := by
              rw [← e1, Nat.mul_assoc (D * E * Δ ^ mkk k), ← Nat.pow_succ']
            have e3 : B * C * cc Δ Β k * Β * cc Δ Β k = B * C * (cc Δ Β k * cc Δ Β k * Β) := by
              rw [Nat.mul_assoc (B * C), Nat.mul_assoc (B * C)]; congr 1
              rw [Nat.mul_assoc, Nat.mul_comm Β, ← Nat.mul_assoc]
            rw [e2, e3] at i2
            have j1 := (i1.plus i2).mono (C := B * C * cc Δ Β (k + 1)) (by
              rw [← Nat.mul_add]
              refine Nat.mul_le_mul_left _ ?_
              simp only [cc]
              rw [Nat.mul_assoc 2]; omega)
            have j2 := (i3.plus i4).mono (C := B * C * cc Δ Β (k + 1)) (by
              rw [← Nat.mul_add]
              exact Nat.mul_le_mul_left _ (by omega))
            exact j1.join j2 _
      by_cases hlt : a.length < b.length
      · simp only [if_pos hlt]
        have := key b a E D C B hb ha
        rwa [Nat.mul_comm E, Nat.mul_comm C] at this
      · simp only [if_neg hlt]
        exact key a b D E B C ha hb
theorem normL_ms {t : Tow} {Δ Β : Nat} (h0 : 0 < Δ) (hT : ∀ j, Ms Δ Β (t.getD j [])) {k : Nat} {a : List Rat} {D B : Nat} (ha : Ms D B a) :
    Ms (D * D * Δ ^ mkk (k + 1)) (B * B * cc Δ Β (k + 1)) (normL t k a) := by
  have e1 : D * D * Δ ^ mkk k * Δ ^ (mkk k + 1) = D * D * Δ ^ mkk (k + 1) := by
    rw [Nat.mul_assoc, ← Nat.pow_add]; congr 2; simp only [mkk]; omega
  have i1 := (tmsL_ms h0 hT k _ _ D D B B (ha.take (a.length / 2)) (ha.take (a.length / 2))).scale (Δ ^ (mkk k + 1))
  have i2 := tmsL_ms h0 hT k _ _ _ _ _ _ (tmsL_ms h0 hT k _ _ D D B B (ha.drop (a.length / 2)) (ha.drop (a.length / 2))) (hT (Nat.log2 (a.length / 2)))
  have e2 : D * D * Δ ^ mkk k * Δ * Δ ^ mkk k = D * D * Δ ^ mkk (k + 1) := by
    rw [← e1, Nat.mul_assoc (D * D * Δ ^ mkk k), ← Nat.pow_succ']
  have e3 : B * B * cc Δ Β k * Β * cc Δ Β k = B * B * (cc Δ Β k * cc Δ Β k * Β) := by
    rw [Nat.mul_assoc (B * B), Nat.mul_assoc (B * B)]; congr 1
    rw [Nat.mul_assoc, Nat.mul_comm Β, ← Nat.mul_assoc]
  rw [e1, Nat.mul_assoc (B * B)] at i1
  rw [e2, e3] at i2
  refine (i1.plus i2.minus).mono ?_
  rw [← Nat.mul_add]
  refine Nat.mul_le_mul_left _ ?_
  simp only [cc]
  rw [Nat.mul_assoc 2]; omega

/-! ### Shapes alone -/
theorem tmsL_sh {t : Tow} : ∀ (k : Nat) (a b : List Rat), ShT k t → Sh k a → Sh k b → Sh k (tmsL t k a b) ∧ (tmsL t k a b).length ≤ max a.length b.length
  | 0, a, b, _, ha, hb => by
    unfold tmsL
    split
    · exact ⟨.inl rfl, by simp⟩
    · rename_i h
      refine ⟨.of rfl, ?_⟩
      rcases ha with rfl | ⟨j, h1, h2⟩
      · exact absurd (by rw [zeroL_nil]; rfl) h
      · have := pow_pos' j; simp only [List.length_cons, List.length_nil]; omega
  | k + 1, a, b, hT, ha, hb => by
    have hT' : ShT k t := fun j hj => hT j (by omega)
    unfold tmsL
    split
    · exact ⟨.inl rfl, by simp⟩
    · rename_i hz
      rw [Bool.or_eq_true] at hz
      have key : ∀ p q : List Rat, Sh (k + 1) p → Sh (k + 1) q → q.length ≤ p.length → p ≠ [] → ∀ l : List Rat, l = (if p.length = 1 then [p.getD 0 0 * q.getD 0 0] else if q.length ≤ p.length / 2 then joinL (tmsL t k (p.take (p.length / 2)) q) (tmsL t k (p.drop (p.length / 2)) q) (p.length / 2) else
            joinL (plusL (tmsL t k (p.take (p.length / 2)) (q.take (p.length / 2))) (tmsL t k (tmsL t k (p.drop (p.length / 2)) (q.drop (p.length / 2))) (t.getD (Nat.log2 (p.length / 2)) [])))
              (plusL (tmsL t k (p.take (p.length / 2)) (q.drop (p.length / 2))) (tmsL t k (p.drop (p.length / 2)) (q.take (p.length / 2)))) (p.length / 2)) →
          Sh (k + 1) l ∧ l.length ≤ p.length := by
        intro p q hp hq hle hne l hl
        rcases hp with rfl | ⟨j, hj1, hj2⟩
        · exact absurd rfl hne
        · cases j with
          | zero =>
            have h1 : p.length = 1 := hj2
            rw [if_pos h1] at hl
            subst hl
            exact ⟨.inr ⟨0, by omega, rfl⟩, by rw [h1]; simp⟩
          | succ j =>
            have hn : p.length / 2 = 2 ^ j := by rw [hj2, half_pow]
            have e2 : 2 ^ (j + 1) = 2 ^ j + 2 ^ j := by rw [Nat.pow_succ]; omega
            have pj := pow_pos' j
            have fin : ∀ A B : List Rat, Sh (k + 1) (joinL A B (2 ^ j)) ∧ (joinL A B (2 ^ j)).length ≤ p.length := fun A B =>
              ⟨.inr ⟨j + 1, by omega, by rw [joinL_len]; omega⟩, by rw [joinL_len]; omega⟩
            rw [if_neg (by omega), hn] at hl
            subst hl
            split <;> exact fin _ _
      have ha0 : a ≠ [] := fun e => hz (.inl (by rw [e]; rfl))
      have hb0 : b ≠ [] := fun e => hz (.inr (by rw [e]; rfl))
      by_cases hlt : a.length < b.length
      · simp only [if_pos hlt]
        obtain ⟨k1, k3⟩ := key b a hb ha (by omega) hb0 _ rfl
        exact ⟨k1, by omega⟩
      · simp only [if_neg hlt]
        obtain ⟨k1, k3⟩ := key a b ha hb (by omega) ha0 _ rfl
        exact ⟨k1, by omega⟩
theorem normL_sh {t : Tow} {k j : Nat} {a : List Rat} (hT : ShT k t) (hj : j < k) (ha : a.length = 2 ^ (j + 1)) (m : Nat) (hjm : j ≤ m) (hm : m ≤ k) : Sh m (normL t m a) := by
  have e2 : 2 ^ (j + 1) = 2 ^ j + 2 ^ j := by rw [Nat.pow_succ]; omega
  have hn : a.length / 2 = 2 ^ j := by rw [ha, half_pow]
  have hT' : ShT m t := fun i hi => hT i (by omega)
  have sx : Sh m (a.take (2 ^ j)) := .inr ⟨j, hjm, by rw [List.length_take]; omega⟩
  have sy : Sh m (a.drop (2 ^ j)) := .inr ⟨j, hjm, by rw [List.length_drop]; omega⟩
  have sd : Sh m (t.getD j []) := .inr ⟨j, hjm, hT j hj⟩
  unfold normL
  simp only [hn, log2_pow]
  exact (tmsL_sh m _ _ hT' sx sx).1.plus (tmsL_sh m _ _ hT' (tmsL_sh m _ _ hT' sy sy).1 sd).1.minus

/-! ### In bits -/
def Bt (n : Nat) (l : List Rat) : Prop := ∃ D B, 0 < D ∧ D ≤ 2 ^ n ∧ B ≤ 2 ^ n ∧ Ms D B l
def BtT (δ : Nat) (t : Tow) : Prop := ∃ Δ Β, 0 < Δ ∧ Δ ≤ 2 ^ δ ∧ Β ≤ 2 ^ δ ∧ ∀ j, Ms Δ Β (t.getD j [])
def ck : Nat → Nat
  | 0 => 0
  | k + 1 => 2 * ck k + 2
theorem pow_mono2 {m n : Nat} (h : m ≤ n) : 2 ^ m ≤ 2 ^ n := Nat.pow_le_pow_right (by omega) h
theorem pow_bits {Δ δ n : Nat} (h : Δ ≤ 2 ^ δ) : Δ ^ n ≤ 2 ^ (n * δ) := by
  rw [Nat.mul_comm, Nat.pow_mul]; exact Nat.pow_le_pow_left h n
theorem cc_bits {Δ Β δ : Nat} (h : Δ ≤ 2 ^ δ) (h' : Β ≤ 2 ^ δ) : ∀ k, cc Δ Β k ≤ 2 ^ (mkk k * δ + ck k)
  | 0 => by simp [cc, mkk, ck]
  | k + 1 => by
    have ih := cc_bits h h' k
    have h1 : cc Δ Β k * Δ ^ (mkk k + 1) ≤ 2 ^ (mkk k * δ + ck k) * 2 ^ ((mkk k + 1) * δ) := Nat.mul_le_mul ih (pow_bits h)
    have h2 : cc Δ Β k * cc Δ Β k * Β ≤ 2 ^ (mkk k * δ + ck k) * 2 ^ (mkk k * δ + ck k) * 2 ^ δ := Nat.mul_le_mul (Nat.mul_le_mul ih ih) h'
    rw [← Nat.pow_add] at h1
    rw [← Nat.pow_add, ← Nat.pow_add] at h2
    have m1 : mkk k * δ + ck k + (mkk k + 1) * δ = mkk k * δ + mkk k * δ + δ + ck k := by rw [Nat.succ_mul]; omega
    have m2 : mkk (k + 1) * δ = mkk k * δ + mkk k * δ + δ := by simp only [mkk]; rw [Nat.succ_mul, Nat.mul_assoc]; omega
    rw [m1] at h1
    simp only [cc]
    rw [Nat.mul_assoc 2, m2]
    simp only [ck]
    generalize mkk k * δ = M at *
    generalize ck k = c at *
    have g1 : 2 ^ (M + M + δ + c) ≤ 2 ^ (M + M + δ + (2 * c)) := pow_mono2 (by omega)
    have g2 : 2 ^ (M + c + (M + c) + δ) = 2 ^ (M + M + δ + 2 * c) := by congr 1; omega
    have g3 : 2 ^ (M + M + δ + (2 * c + 2)) = 2 ^ (M + M + δ + 2 * c) * 4 := by rw [← Nat.add_assoc, Nat.pow_add]
    omega
theorem Bt.mono {m n : Nat} {l : List Rat} (h : Bt m l) (hm : m ≤ n) : Bt n l := by
  obtain ⟨D, B, h1, h2, h3, h4⟩ := h
  have := pow_mono2 hm
  exact ⟨D, B, h1, by omega, by omega, h4⟩
theorem Bt.nil (n : Nat) : Bt n [] := ⟨1, 0, by omega, Nat.pow_pos (by omega), Nat.zero_le _, .nil _ _⟩
theorem Bt.part {n : Nat} {a b : List Rat} (h : Bt n a) (g : ∀ i, b.getD i 0 = 0 ∨ ∃ j, b.getD i 0 = a.getD j 0) : Bt n b := by
  obtain ⟨D, B, h1, h2, h3, h4⟩ := h
  exact ⟨D, B, h1, h2, h3, h4.part g⟩
theorem Bt.take {n : Nat} {a : List Rat} (h : Bt n a) (m : Nat) : Bt n (a.take m) := by
  obtain ⟨D, B, h1, h2, h3, h4⟩ := h
  exact ⟨D, B, h1, h2, h3, h4.take m⟩
theorem Bt.drop {n : Nat} {a : List Rat} (h : Bt n a) (m : Nat) : Bt n (a.drop m) := by
  obtain ⟨D, B, h1, h2, h3, h4⟩ := h
  exact ⟨D, B, h1, h2, h3, h4.drop m⟩
theorem Bt.minus {n : Nat} {a : List Rat} (h : Bt n a) : Bt n (minusL a) := by
  obtain ⟨D, B, h1, h2, h3, h4⟩ := h
  exact ⟨D, B, h1, h2, h3, h4.minus⟩
theorem Bt.short {n k : Nat} {a : List Rat} (h : Bt n a) (hs : Sh k a) : Bt n (shortL a) := by
  obtain ⟨D, B, h1, h2, h3, h4⟩ := h
  exact ⟨D, B, h1, h2, h3, h4.short hs⟩
theorem Bt.plus {m n : Nat} {a b : List Rat} (ha : Bt m a) (hb : Bt n b) : Bt (m + n + 1) (plusL a b) := by
  obtain ⟨D, B, h1, h2, h3, h4⟩ := ha
  obtain ⟨E, C, g1, g2, g3, g4⟩ := hb
  have k1 := h4.scale E
  have k2 := g4.scale D
  rw [Nat.mul_comm E] at k2
  refine ⟨D * E, B * E + C * D, Nat.mul_pos h1 g1, ?_, ?_, k1.plus k2⟩
  · have := Nat.mul_le_mul h2 g2
    rw [← Nat.pow_add] at this
    have := pow_mono2 (show m + n ≤ m + n + 1 by omega)
    omega
  · have p1 := Nat.mul_le_mul h3 g2
    have p2 := Nat.mul_le_mul g3 h2
    rw [← Nat.pow_add] at p1 p2
    rw [Nat.add_comm n] at p2
    have : 2 ^ (m + n + 1) = 2 ^ (m + n) * 2 := Nat.pow_succ ..
    omega
theorem Bt.join {m n : Nat} {a b : List Rat} (ha : Bt m a) (hb : Bt n b) (k : Nat) : Bt (m + n) (joinL a b k) := by
  obtain ⟨D, B, h1, h2, h3, h4⟩ := ha
  obtain ⟨E, C, g1, g2, g3, g4⟩ := hb
  have k1 := h4.scale E
  have k2 := g4.scale D
  rw [Nat.mul_comm E] at k2
  have q0 : D * E ≤ 2 ^ m * 2 ^ n := Nat.mul_le_mul h2 g2
  have q1 : B * E ≤ 2 ^ m * 2 ^ n := Nat.mul_le_mul h3 g2
  have q2 : C * D ≤ 2 ^ n * 2 ^ m := Nat.mul_le_mul g3 h2
  rw [Nat.mul_comm (2 ^ n)] at q2
  refine ⟨D * E, 2 ^ m * 2 ^ n, Nat.mul_pos h1 g1, ?_, ?_, (k1.mono q1).join (k2.mono q2) k⟩
  · rw [Nat.pow_add]; exact q0
  · rw [Nat.pow_add]; exact Nat.le_refl _
theorem Bt.times {t : Tow} {δ m n : Nat} (hT : BtT δ t) {a b : List Rat} (ha : Bt m a) (hb : Bt n b) (k : Nat) : Bt (m + n + mkk k * δ + ck k) (tmsL t k a b) := by
  obtain ⟨D, B, h1, h2, h3, h4⟩ := ha
  obtain ⟨E, C, g1, g2, g3, g4⟩ := hb
  obtain ⟨Δ, Β, d1, d2, d3, d4⟩ := hT
  refine ⟨_, _, Nat.mul_pos (Nat.mul_pos h1 g1) (Nat.pow_pos d1), ?_, ?_, tmsL_ms d1 d4 k a b D E B C h4 g4⟩
  · have := Nat.mul_le_mul (Nat.mul_le_mul h2 g2) (pow_bits (n := mkk k) d2)
    rw [← Nat.pow_add, ← Nat.pow_add] at this
    have := pow_mono2 (show m + n + mkk k * δ ≤ m + n + mkk k * δ + ck k by omega)
    omega
  · have := Nat.mul_le_mul (Nat.mul_le_mul h3 g3) (cc_bits d2 d3 k)
    rw [← Nat.pow_add, ← Nat.pow_add, ← Nat.add_assoc] at this
    exact this
theorem Bt.norm {t : Tow} {δ n : Nat} (hT : BtT δ t) {a : List Rat} (ha : Bt n a) (k : Nat) : Bt (n + n + mkk (k + 1) * δ + ck (k + 1)) (normL t k a) := by
  obtain ⟨D, B, h1, h2, h3, h4⟩ := ha
  obtain ⟨Δ, Β, d1, d2, d3, d4⟩ := hT
  refine ⟨_, _, Nat.mul_pos (Nat.mul_pos h1 h1) (Nat.pow_pos d1), ?_, ?_, normL_ms d1 d4 (k := k) h4⟩
  · have := Nat.mul_le_mul (Nat.mul_le_mul h2 h2) (pow_bits (n := mkk (k + 1)) d2)
    rw [← Nat.pow_add, ← Nat.pow_add] at this
    have := pow_mono2 (show n + n + mkk (k + 1) * δ ≤ n + n + mkk (k + 1) * δ + ck (k + 1) by omega)
    omega
  · have := Nat.mul_le_mul (Nat.mul_le_mul h3 h3) (cc_bits d2 d3 (k + 1))
    rw [← Nat.pow_add, ← Nat.pow_add, ← Nat.add_assoc] at this
    exact this
theorem mul_den (q : Rat) : q * (q.den : Rat) = (q.num : Rat) := by
  have e : (q.num : Rat) / ((q.den : Int) : Rat) = q := by rw [← Rat.divInt_eq_div, Rat.num_divInt_den]
  have d0 : ((q.den : Int) : Rat) ≠ 0 := by
    intro h
    have := Rat.intCast_eq_zero_iff.1 h
    have := q.den_pos
    omega
  have h2 := Rat.div_mul_cancel (a := (q.num : Rat)) d0
  rw [e] at h2
  exact h2
theorem Bt.sz {n k : Nat} {l : List Rat} (h : Bt n l) (hk : n < 32 * k) : Tw.SzL k l := by
  obtain ⟨D, B, h1, h2, h3, h4⟩ := h
  intro q hq
  obtain ⟨i, hi, rfl⟩ := List.mem_iff_getElem.1 hq
  obtain ⟨z, hz, hb⟩ := h4 i
  rw [List.getD_eq_getElem?_getD, List.getElem?_eq_getElem hi] at hz
  have hz' : l[i] * (D : Rat) = (z : Rat) := hz
  have d0 : ((D : Int) : Rat) ≠ 0 := by
    intro e
    have : (D : Int) = 0 := Rat.intCast_eq_zero_iff.1 e
    omega
  have e : l[i] = Rat.divInt z D := by
    rw [Rat.divInt_eq_div, ← hz', Rat.div_def, Rat.mul_assoc]
    rw [show ((D : Nat) : Rat) = ((D : Int) : Rat) from rfl, Rat.mul_inv_cancel _ d0, Rat.mul_one]
  have p : 2 ^ n < BP k := by
    rw [BP_two]; exact Nat.pow_lt_pow_right (by omega) hk
  rw [e]
  exact sz_divInt (by omega) ((len_le_iff _ _).2 (by omega)) ((len_le_iff _ _).2 (by rw [Int.natAbs_natCast]; omega))
/-- A list of fractions of at most m bits each. -/
theorem Bt.of_num {n : Nat} (z : Int) (h : z.natAbs ≤ 2 ^ n) : Bt n [(z : Rat)] := by
  refine ⟨1, z.natAbs, by omega, Nat.pow_pos (by omega), h, fun i => ?_⟩
  cases i with
  | zero => exact ⟨z, by simp, Nat.le_refl _⟩
  | succ i => exact ⟨0, by simp, by simp⟩
theorem Bt.of_sz {k : Nat} : ∀ {l : List Rat}, Tw.SzL k l → Bt (32 * k * (2 * l.length)) l
  | [], _ => .nil _
  | q :: l, h => by
    obtain ⟨D, B, h1, h2, h3, h4⟩ := Bt.of_sz (l := l) fun x hx => h x (List.mem_cons_of_mem _ hx)
    have hq := h q List.mem_cons_self
    have n1 := (len_le_iff _ _).1 hq.1
    have n2 := (len_le_iff _ _).1 hq.2.1
    rw [BP_two] at n1 n2
    have e : 2 ^ (32 * k * (2 * (q :: l).length)) = 2 ^ (32 * k) * 2 ^ (32 * k) * 2 ^ (32 * k * (2 * l.length)) := by
      rw [← Nat.pow_add, ← Nat.pow_add]; congr 1
      rw [List.length_cons, Nat.mul_succ, Nat.mul_add]; omega
    have pk : 0 < 2 ^ (32 * k) := Nat.pow_pos (by omega)
    refine ⟨q.den * D, q.num.natAbs * D + B * q.den, Nat.mul_pos q.den_pos h1, ?_, ?_, fun i => ?_⟩
    · rw [e]
      refine Nat.mul_le_mul (Nat.le_trans (Nat.le_of_lt n2) ?_) h2
      exact Nat.le_mul_of_pos_left _ pk
    · rw [e]
      have p1 : q.num.natAbs * D ≤ (2 ^ (32 * k) - 1) * 2 ^ (32 * k * (2 * l.length)) := Nat.mul_le_mul (by omega) h2
      have p2 : B * q.den ≤ 2 ^ (32 * k * (2 * l.length)) * 2 ^ (32 * k) := Nat.mul_le_mul h3 (by omega)
      generalize 2 ^ (32 * k * (2 * l.length)) = M at *
      generalize 2 ^ (32 * k) = N at *
      have p3 : (N - 1) * M + M * N ≤ N * N * M := by
        obtain ⟨N', rfl⟩ : ∃ N', N = N' + 1 := ⟨N - 1, by omega⟩
        simp only [Nat.add_sub_cancel]
        rw [Nat.mul_comm M, ← Nat.add_mul]
        refine Nat.mul_le_mul_right _ ?_
        rw [Nat.succ_mul, Nat.mul_succ]
        have : N' ≤ N' * N' + N' := Nat.le_add_left _ _
        omega
      omega
    · cases i with
      | zero =>
        refine ⟨q.num * D, ?_, ?_⟩
        · show q * _ = _
          have := mul_den q
          push_cast
          rw [← Rat.mul_assoc, this]
        · rw [Int.natAbs_mul, Int.natAbs_natCast]; omega
      | succ i =>
        obtain ⟨z, hz, hb⟩ := h4 i
        refine ⟨z * q.den, ?_, ?_⟩
        · show l.getD i 0 * _ = _
          push_cast
          rw [← hz]; grind
        · rw [Int.natAbs_mul, Int.natAbs_natCast]
          have := Nat.mul_le_mul_right q.den hb
          omega

/-! ### What signs and inverses take -/
def sb (δ : Nat) : Nat → Nat → Nat
  | 0, n => n
  | k + 1, n => sb δ k (n + n + mkk (k + 1) * δ + ck (k + 1))
theorem sb_mono (δ : Nat) : ∀ (k : Nat) {m n : Nat}, m ≤ n → sb δ k m ≤ sb δ k n
  | 0, _, _, h => h
  | k + 1, _, _, h => sb_mono δ k (by omega)
theorem sb_ge (δ : Nat) : ∀ (k n : Nat), n ≤ sb δ k n
  | 0, _ => Nat.le_refl _
  | k + 1, n => Nat.le_trans (by omega) (sb_ge δ k _)
theorem sb_up (δ k n : Nat) : sb δ k n ≤ sb δ (k + 1) n := sb_mono δ k (by omega)
theorem sb_root (δ k n : Nat) : sb δ k δ ≤ sb δ (k + 1) n := by
  refine sb_mono δ k ?_
  have : δ ≤ mkk (k + 1) * δ := by simp only [mkk]; rw [Nat.succ_mul]; omega
  omega
end Fld
end Lw
