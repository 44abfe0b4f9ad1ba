/- Choices of a catalogue in their order, the best one, trees of boxes: plain laws. No condition. -/
import Derived.Test.YtobmipmefimfpaaGreatDoorLwKa
namespace Lw
open Go Go.RowKit Go.Proofs

/-- Four indices. -/
@[ext] structure Ix where
  g : Nat
  a : Nat
  b : Nat
  c : Nat
  deriving DecidableEq
def Ix.get (x : Ix) (i : Nat) : Nat := if i = 0 then x.g else if i = 1 then x.a else if i = 2 then x.b else x.c
def Ix.set (x : Ix) (i v : Nat) : Ix := if i = 0 then { x with g := v } else if i = 1 then { x with a := v } else if i = 2 then { x with b := v } else { x with c := v }
def Ix.zero : Ix := ⟨0, 0, 0, 0⟩
def Ix.le (x y : Ix) : Prop := x.g ≤ y.g ∧ x.a ≤ y.a ∧ x.b ≤ y.b ∧ x.c ≤ y.c
/-- Below the sizes. -/
def Ix.lt (x n : Ix) : Prop := x.g < n.g ∧ x.a < n.a ∧ x.b < n.b ∧ x.c < n.c
/-- The place in the order. -/
def Ix.num (n x : Ix) : Nat := ((x.g * n.a + x.a) * n.b + x.b) * n.c + x.c
def Ix.all (n : Ix) : Nat := ((n.g * n.a) * n.b) * n.c
/-- The choice at a place. -/
def Ix.dig (n : Ix) (k : Nat) : Ix := ⟨k / n.c / n.b / n.a, k / n.c / n.b % n.a, k / n.c % n.b, k % n.c⟩
theorem mul_add_div' {x n r : Nat} (h : r < n) : (x * n + r) / n = x := by
  rw [Nat.mul_comm, Nat.mul_add_div (by omega), Nat.div_eq_of_lt h, Nat.add_zero]
theorem mul_add_mod' {x n r : Nat} (h : r < n) : (x * n + r) % n = r := by
  rw [Nat.mul_comm, Nat.mul_add_mod, Nat.mod_eq_of_lt h]
theorem dig_num {n x : Ix} (h : x.lt n) : Ix.dig n (Ix.num n x) = x := by
  obtain ⟨h1, h2, h3, h4⟩ := h
  unfold Ix.dig Ix.num
  rw [mul_add_div' h4, mul_add_mod' h4, mul_add_div' h3, mul_add_mod' h3, mul_add_div' h2, mul_add_mod' h2]
theorem num_lt {n x : Ix} (h : x.lt n) : Ix.num n x < Ix.all n := by
  obtain ⟨h1, h2, h3, h4⟩ := h
  unfold Ix.num Ix.all
  have a : x.g * n.a + x.a < n.g * n.a := by
    have : (x.g + 1) * n.a ≤ n.g * n.a := Nat.mul_le_mul_right _ h1
    rw [Nat.succ_mul] at this; omega
  have b : (x.g * n.a + x.a) * n.b + x.b < n.g * n.a * n.b := by
    have : (x.g * n.a + x.a + 1) * n.b ≤ n.g * n.a * n.b := Nat.mul_le_mul_right _ a
    rw [Nat.succ_mul] at this; omega
  have : ((x.g * n.a + x.a) * n.b + x.b + 1) * n.c ≤ n.g * n.a * n.b * n.c := Nat.mul_le_mul_right _ b
  rw [Nat.succ_mul] at this; omega
theorem num_dig {n : Ix} {k : Nat} (h : k < Ix.all n) : Ix.num n (Ix.dig n k) = k ∧ (Ix.dig n k).lt n := by
  have hc : 0 < n.c := by rcases Nat.eq_zero_or_pos n.c with e | e; (· unfold Ix.all at h; rw [e, Nat.mul_zero] at h; omega); exact e
  have h1 : k / n.c < n.g * n.a * n.b := by rw [Nat.div_lt_iff_lt_mul hc]; exact h
  have hb : 0 < n.b := by rcases Nat.eq_zero_or_pos n.b with e | e; (· rw [e, Nat.mul_zero] at h1; exact absurd h1 (Nat.not_lt_zero _)); exact e
  have h2 : k / n.c / n.b < n.g * n.a := by rw [Nat.div_lt_iff_lt_mul hb]; exact h1
  have ha : 0 < n.a := by rcases Nat.eq_zero_or_pos n.a with e | e; (· rw [e, Nat.mul_zero] at h2; exact absurd h2 (Nat.not_lt_zero _)); exact e
  have h3 : k / n.c / n.b / n.a < n.g := by rw [Nat.div_lt_iff_lt_mul ha]; exact h2
  refine ⟨?_, h3, Nat.mod_lt _ ha, Nat.mod_lt _ hb, Nat.mod_lt _ hc⟩
  unfold Ix.num Ix.dig
  have e1 := Nat.div_add_mod (k / n.c / n.b) n.a
  have e2 := Nat.div_add_mod (k / n.c) n.b
  have e3 := Nat.div_add_mod k n.c
  simp only
  rw [Nat.mul_comm (k / n.c / n.b / n.a), e1, Nat.mul_comm (k / n.c / n.b), e2, Nat.mul_comm (k / n.c), e3]
/-- The next one, where there is one. -/
def Ix.next (n x : Ix) : Ix :=
  if x.c + 1 < n.c then ⟨x.g, x.a, x.b, x.c + 1⟩ else if x.b + 1 < n.b then ⟨x.g, x.a, x.b + 1, 0⟩ else if x.a + 1 < n.a then ⟨x.g, x.a + 1, 0, 0⟩ else ⟨x.g + 1, 0, 0, 0⟩
def Ix.last (n x : Ix) : Prop := ¬ x.c + 1 < n.c ∧ ¬ x.b + 1 < n.b ∧ ¬ x.a + 1 < n.a ∧ ¬ x.g + 1 < n.g
instance (n x : Ix) : Decidable (Ix.last n x) := by unfold Ix.last; infer_instance
theorem next_lt {n x : Ix} (h : x.lt n) (hl : ¬ Ix.last n x) : (Ix.next n x).lt n ∧ Ix.num n (Ix.next n x) = Ix.num n x + 1 := by
  obtain ⟨h1, h2, h3, h4⟩ := h
  unfold Ix.next Ix.num Ix.lt
  by_cases c1 : x.c + 1 < n.c
  · rw [if_pos c1]
    exact ⟨⟨h1, h2, h3, c1⟩, by simp only; omega⟩
  · rw [if_neg c1]
    have e1 : x.c + 1 = n.c := by omega
    by_cases c2 : x.b + 1 < n.b
    · rw [if_pos c2]
      refine ⟨⟨h1, h2, c2, by simp only; omega⟩, ?_⟩
      simp only
      rw [← Nat.add_assoc, Nat.succ_mul]; omega
    · rw [if_neg c2]
      have e2 : x.b + 1 = n.b := by omega
      by_cases c3 : x.a + 1 < n.a
      · rw [if_pos c3]
        refine ⟨⟨h1, c3, by simp only; omega, by simp only; omega⟩, ?_⟩
        simp only
        have : (x.g * n.a + (x.a + 1)) * n.b + 0 = (x.g * n.a + x.a) * n.b + x.b + 1 := by rw [← Nat.add_assoc, Nat.succ_mul]; omega
        rw [this, Nat.succ_mul]; omega
      · rw [if_neg c3]
        have e3 : x.a + 1 = n.a := by omega
        have c4 : x.g + 1 < n.g := by
          by_cases c4 : x.g + 1 < n.g
          · exact c4
          · exact absurd ⟨c1, c2, c3, c4⟩ hl
        refine ⟨⟨c4, by simp only; omega, by simp only; omega, by simp only; omega⟩, ?_⟩
        simp only
        have k1 : (x.g + 1) * n.a + 0 = x.g * n.a + x.a + 1 := by rw [Nat.succ_mul]; omega
        have k2 : ((x.g + 1) * n.a + 0) * n.b + 0 = (x.g * n.a + x.a) * n.b + x.b + 1 := by rw [k1, Nat.succ_mul]; omega
        rw [k2, Nat.succ_mul]; omega
theorem last_num {n x : Ix} (h : x.lt n) (hl : Ix.last n x) : Ix.num n x + 1 = Ix.all n := by
  obtain ⟨h1, h2, h3, h4⟩ := h
  obtain ⟨c1, c2, c3, c4⟩ := hl
  have e1 : x.c + 1 = n.c := by omega
  have e2 : x.b + 1 = n.b := by omega
  have e3 : x.a + 1 = n.a := by omega
  have e4 : x.g + 1 = n.g := by omega
  unfold Ix.num Ix.all
  have k1 : n.g * n.a = x.g * n.a + x.a + 1 := by rw [← e4, Nat.succ_mul]; omega
  have k2 : n.g * n.a * n.b = (x.g * n.a + x.a) * n.b + x.b + 1 := by rw [k1, Nat.succ_mul]; omega
  rw [k2, Nat.succ_mul]; omega

/-! ### the best choice -/
/-- The best one of the first k + 1. -/
def bestN (n : Ix) (f : Ix → Rat) : Nat → Ix × Rat
  | 0 => (Ix.dig n 0, f (Ix.dig n 0))
  | k + 1 => if f (Ix.dig n (k + 1)) < (bestN n f k).2 then (Ix.dig n (k + 1), f (Ix.dig n (k + 1))) else bestN n f k
theorem best_at (n : Ix) (f : Ix → Rat) : ∀ k, ∃ j, j ≤ k ∧ bestN n f k = (Ix.dig n j, f (Ix.dig n j))
  | 0 => ⟨0, Nat.le_refl 0, rfl⟩
  | k + 1 => by
    obtain ⟨j, h1, h2⟩ := best_at n f k
    unfold bestN
    split
    · exact ⟨k + 1, Nat.le_refl _, rfl⟩
    · exact ⟨j, by omega, h2⟩
theorem best_le (n : Ix) (f : Ix → Rat) : ∀ k j, j ≤ k → (bestN n f k).2 ≤ f (Ix.dig n j)
  | 0, j, h => by
    have : j = 0 := by omega
    subst this; exact Rat.le_refl
  | k + 1, j, h => by
    unfold bestN
    by_cases hj : j = k + 1
    · subst hj
      split
      · exact Rat.le_refl
      · rename_i h; exact Rat.not_lt.1 h
    · have ih := best_le n f k j (by omega)
      split
      · rename_i h2; exact Rat.le_trans (Rat.le_of_lt h2) ih
      · exact ih
/-- The best one of all. -/
def bestOf (n : Ix) (f : Ix → Rat) : Ix × Rat := bestN n f (Ix.all n - 1)
theorem bestOf_le {n : Ix} (f : Ix → Rat) {x : Ix} (h : x.lt n) : (bestOf n f).2 ≤ f x := by
  have h1 := num_lt h
  have := best_le n f (Ix.all n - 1) (Ix.num n x) (by omega)
  rwa [dig_num h] at this
theorem bestOf_at {n : Ix} (f : Ix → Rat) (hn : 0 < Ix.all n) : (bestOf n f).1.lt n ∧ (bestOf n f).2 = f (bestOf n f).1 := by
  obtain ⟨j, h1, h2⟩ := best_at n f (Ix.all n - 1)
  unfold bestOf
  rw [h2]
  exact ⟨(num_dig (by omega)).2, rfl⟩

/-! ### trees of boxes -/
/-- A tree as it is read: what matters is whether a node has two kids. -/
inductive Bt where
  | leaf (axis at' : Int)
  | two (axis at' : Int) (l r : Bt)
  | odd (axis at' : Int) (n : Nat)
/-- The axis that is halved: the first one of the longest. -/
def axisOf (lo hi : Ix) : Nat :=
  let d (i : Nat) : Nat := hi.get i - lo.get i
  let a1 := if d 0 < d 1 then 1 else 0
  let a2 := if d a1 < d 2 then 2 else a1
  if d a2 < d 3 then 3 else a2
theorem axis_max (lo hi : Ix) : axisOf lo hi < 4 ∧ ∀ i, i < 4 → hi.get i - lo.get i ≤ hi.get (axisOf lo hi) - lo.get (axisOf lo hi) := by
  unfold axisOf
  generalize hd : (fun i : Nat => hi.get i - lo.get i) = d
  have e : ∀ i, hi.get i - lo.get i = d i := fun i => by rw [← hd]
  simp only [e]
  clear e hd
  have key : ∀ a, a < 4 → (∀ i, i < 3 → d i ≤ d a) → (if d a < d 3 then 3 else a) < 4 ∧ ∀ i, i < 4 → d i ≤ d (if d a < d 3 then 3 else a) := by
    intro a ha h
    split
    · rename_i h3
      refine ⟨by omega, fun i hi => ?_⟩
      by_cases h4 : i = 3
      · subst h4; exact Nat.le_refl _
      · have := h i (by omega); omega
    · rename_i h3
      refine ⟨ha, fun i hi => ?_⟩
      by_cases h4 : i = 3
      · subst h4; omega
      · exact h i (by omega)
  have k2 : ∀ a, a < 2 → (∀ i, i < 2 → d i ≤ d a) → (if d a < d 2 then 2 else a) < 4 ∧ ∀ i, i < 3 → d i ≤ d (if d a < d 2 then 2 else a) := by
    intro a ha h
    split
    · rename_i h3
      refine ⟨by omega, fun i hi => ?_⟩
      by_cases h4 : i = 2
      · subst h4; exact Nat.le_refl _
      · have := h i (by omega); omega
    · rename_i h3
      refine ⟨by omega, fun i hi => ?_⟩
      by_cases h4 : i = 2
      · subst h4; omega
      · exact h i (by omega)
  have k1 : (if d 0 < d 1 then 1 else 0) < 2 ∧ ∀ i, i < 2 → d i ≤ d (if d 0 < d 1 then 1 else 0) := by
    split
    · rename_i h3
      refine ⟨by omega, fun i hi => ?_⟩
      by_cases h4 : i = 1
      · subst h4; exact Nat.le_refl _
      · have : i = 0 := by omega
        subst this; omega
    · rename_i h3
      refine ⟨by omega, fun i hi => ?_⟩
      by_cases h4 : i = 1
      · subst h4; omega
      · have : i = 0 := by omega
        subst this; exact Nat.le_refl _
  obtain ⟨b1, b2⟩ := k2 _ k1.1 k1.2
  exact key _ b1 b2
def vol (lo hi : Ix) : Nat := (hi.g - lo.g) + (hi.a - lo.a) + (hi.b - lo.b) + (hi.c - lo.c)
def midOf (lo hi : Ix) (axis : Nat) : Nat := (lo.get axis + hi.get axis) / 2
/-- The certificate of a box for a cost; m: how often it may still be halved. -/
def growT (low : Ix → Ix → Rat) (cost : Rat) : Nat → Ix → Ix → Bt
  | 0, _, _ => .leaf 0 0
  | m + 1, lo, hi => if cost ≤ low lo hi then .leaf 0 0 else
      .two (axisOf lo hi) (midOf lo hi (axisOf lo hi)) (growT low cost m lo (hi.set (axisOf lo hi) (midOf lo hi (axisOf lo hi)))) (growT low cost m (lo.set (axisOf lo hi) (midOf lo hi (axisOf lo hi) + 1)) hi)
/-- Whether a tree proves a cost for a box. -/
def proveT (low : Ix → Ix → Rat) (cost : Rat) : Ix → Ix → Bt → Bool
  | lo, hi, .leaf _ _ => decide (cost ≤ low lo hi)
  | _, _, .odd _ _ _ => false
  | lo, hi, .two axis at' l r =>
    if 0 ≤ axis ∧ axis ≤ 3 ∧ (lo.get axis.toNat : Int) ≤ at' ∧ at' < (hi.get axis.toNat : Int) then
      proveT low cost lo (hi.set axis.toNat at'.toNat) l && proveT low cost (lo.set axis.toNat (at'.toNat + 1)) hi r
    else false
theorem get_cases {i : Nat} (h : i < 4) : i = 0 ∨ i = 1 ∨ i = 2 ∨ i = 3 := by omega
theorem set_le {lo hi : Ix} {i v : Nat} (hi' : i < 4) (h : lo.le hi) (h1 : lo.get i ≤ v) (h2 : v < hi.get i) : lo.le (hi.set i v) ∧ (lo.set i (v + 1)).le hi ∧ vol lo (hi.set i v) < vol lo hi ∧ vol (lo.set i (v + 1)) hi < vol lo hi := by
  obtain ⟨a1, a2, a3, a4⟩ := h
  rcases get_cases hi' with rfl | rfl | rfl | rfl <;> simp [Ix.get] at h1 h2 <;> simp [Ix.set, Ix.le, vol] <;> omega
/-- Each choice of a box is in one of its halves. -/
theorem in_half {lo hi x : Ix} {i v : Nat} (hi' : i < 4) (h1 : lo.le x) (h2 : x.le hi) : (x.le (hi.set i v)) ∨ ((lo.set i (v + 1)).le x) := by
  obtain ⟨a1, a2, a3, a4⟩ := h1
  obtain ⟨b1, b2, b3, b4⟩ := h2
  rcases get_cases hi' with rfl | rfl | rfl | rfl <;> simp [Ix.set, Ix.le] <;> omega
/-- What is proved holds. -/
theorem prove_sound {low : Ix → Ix → Rat} {cost : Rat} : ∀ {t : Bt} {lo hi : Ix}, lo.le hi → (∀ l h x : Ix, lo.le l → l.le x → x.le h → h.le hi → low l h ≤ low x x) → proveT low cost lo hi t = true → ∀ x : Ix, lo.le x → x.le hi → cost ≤ low x x
  | .leaf _ _, lo, hi, hle, hm, hp, x, h1, h2 => by
    have hp : cost ≤ low lo hi := of_decide_eq_true hp
    exact Rat.le_trans hp (hm lo hi x ⟨Nat.le_refl _, Nat.le_refl _, Nat.le_refl _, Nat.le_refl _⟩ h1 h2 ⟨Nat.le_refl _, Nat.le_refl _, Nat.le_refl _, Nat.le_refl _⟩)
  | .odd _ _ _, _, _, _, _, hp, _, _, _ => by cases hp
  | .two axis at' l r, lo, hi, hle, hm, hp, x, h1, h2 => by
    unfold proveT at hp
    split at hp
    · rename_i hc
      obtain ⟨c1, c2, c3, c4⟩ := hc
      rw [Bool.and_eq_true] at hp
      have i4 : axis.toNat < 4 := by omega
      have v1 : lo.get axis.toNat ≤ at'.toNat := by omega
      have v2 : at'.toNat < hi.get axis.toNat := by omega
      obtain ⟨k1, k2, -, -⟩ := set_le i4 hle v1 v2
      have e1 : (hi.set axis.toNat at'.toNat).le hi := by
        rcases get_cases i4 with h | h | h | h <;> rw [h] at v2 ⊢ <;> simp [Ix.get] at v2 <;> simp [Ix.set, Ix.le] <;> omega
      have e2 : lo.le (lo.set axis.toNat (at'.toNat + 1)) := by
        rcases get_cases i4 with h | h | h | h <;> rw [h] at v1 ⊢ <;> simp [Ix.get] at v1 <;> simp [Ix.set, Ix.le] <;> omega
      have tr : ∀ {p q r : Ix}, p.le q → q.le r → p.le r := fun ⟨p1, p2, p3, p4⟩ ⟨q1, q2, q3, q4⟩ => ⟨by omega, by omega, by omega, by omega⟩
      rcases in_half (v := at'.toNat) i4 h1 h2 with h | h
      · exact prove_sound k1 (fun u w y a b c d => hm u w y a b c (tr d e1)) hp.1 x h1 h
      · exact prove_sound k2 (fun u w y a b c d => hm u w y (tr e2 a) b c d) hp.2 x h h2
    · cases hp
theorem vol_axis {lo hi : Ix} (h : lo.le hi) (hv : 0 < vol lo hi) : lo.get (axisOf lo hi) < hi.get (axisOf lo hi) := by
  obtain ⟨h1, h2⟩ := axis_max lo hi
  have a0 := h2 0 (by omega)
  have a1 := h2 1 (by omega)
  have a2 := h2 2 (by omega)
  have a3 := h2 3 (by omega)
  unfold vol at hv
  simp [Ix.get] at a0 a1 a2 a3
  obtain ⟨g1, g2, g3, g4⟩ := h
  rcases get_cases h1 with e | e | e | e <;> rw [e] at a0 a1 a2 a3 ⊢ <;> simp [Ix.get] at a0 a1 a2 a3 ⊢ <;> omega
theorem vol_zero {lo hi : Ix} (h : lo.le hi) (hv : vol lo hi = 0) : lo = hi := by
  obtain ⟨g1, g2, g3, g4⟩ := h
  unfold vol at hv
  ext <;> omega
/-- What is grown proves. -/
theorem grow_proves {low : Ix → Ix → Rat} {cost : Rat} : ∀ {m : Nat} {lo hi : Ix}, lo.le hi → vol lo hi < m → (∀ x : Ix, lo.le x → x.le hi → cost ≤ low x x) → proveT low cost lo hi (growT low cost m lo hi) = true
  | 0, _, _, _, h, _ => by omega
  | m + 1, lo, hi, hle, hv, hc => by
    unfold growT
    by_cases hk : cost ≤ low lo hi
    · rw [if_pos hk]
      exact decide_eq_true hk
    · rw [if_neg hk]
      have hpos : 0 < vol lo hi := by
        rcases Nat.eq_zero_or_pos (vol lo hi) with e | e
        · have e2 := vol_zero hle e
          subst e2
          exact absurd (hc lo hle hle) hk
        · exact e
      have hlt := vol_axis hle hpos
      have h4 := (axis_max lo hi).1
      generalize axisOf lo hi = i at hlt h4
      have v1 : lo.get i ≤ midOf lo hi i := by unfold midOf; omega
      have v2 : midOf lo hi i < hi.get i := by unfold midOf; omega
      generalize midOf lo hi i = v at v1 v2
      obtain ⟨k1, k2, k3, k4⟩ := set_le h4 hle v1 v2
      unfold proveT
      have e1 : ((i : Int)).toNat = i := rfl
      have e2 : ((v : Int)).toNat = v := rfl
      rw [if_pos ⟨by omega, by omega, by rw [e1]; omega, by rw [e1]; omega⟩, e1, e2, Bool.and_eq_true]
      have t1 : ∀ x : Ix, lo.le x → x.le (hi.set i v) → cost ≤ low x x := fun x a b => hc x a (by
        obtain ⟨b1, b2, b3, b4⟩ := b
        rcases get_cases h4 with rfl | rfl | rfl | rfl <;> simp [Ix.get] at v2 <;> simp [Ix.set] at b1 b2 b3 b4 <;> exact ⟨by omega, by omega, by omega, by omega⟩)
      have t2 : ∀ x : Ix, (lo.set i (v + 1)).le x → x.le hi → cost ≤ low x x := fun x a b => hc x (by
        obtain ⟨b1, b2, b3, b4⟩ := a
        rcases get_cases h4 with rfl | rfl | rfl | rfl <;> simp [Ix.get] at v1 <;> simp [Ix.set] at b1 b2 b3 b4 <;> exact ⟨by omega, by omega, by omega, by omega⟩) b
      exact ⟨grow_proves k1 (by omega) t1, grow_proves k2 (by omega) t2⟩
end Lw
