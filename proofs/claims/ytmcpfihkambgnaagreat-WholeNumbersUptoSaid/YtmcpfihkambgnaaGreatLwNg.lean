/- Numbers of towers: inverses, the operations that the program offers, the tower with one root more. No condition. -/
import Derived.Test.YtmcpfihkambgnaaGreatLwNf
namespace Lw
namespace Fld
open Rng OFd

def invL (t : Tow) : Nat → List Rat → List Rat
  | 0, a => [(a.getD 0 0)⁻¹]
  | k + 1, a =>
    let a := shortL a
    if a.length = 1 then [(a.getD 0 0)⁻¹] else
    let n := a.length / 2
    let m := normL t k a
    if signL t k m = 0 then invL t k (plusL (a.take n) (a.take n)) else
    tmsL t (k + 1) (joinL (a.take n) (minusL (a.drop n)) n) (invL t k m)
/-- The operations on numbers of a tower of level k. -/
def addL (a b : List Rat) : List Rat := shortL (plusL a b)
def subL (a b : List Rat) : List Rat := shortL (plusL a (minusL b))
def negL (a : List Rat) : List Rat := shortL (minusL a)
def mulL (t : Tow) (a b : List Rat) : List Rat := shortL (tmsL t t.length a b)
def divL (t : Tow) (a b : List Rat) : List Rat := shortL (tmsL t t.length a (invL t t.length b))
def sgnL (t : Tow) (a : List Rat) : Int := signL t t.length a
def rootL (k : Nat) : List Rat := wideL [] (2 ^ k) ++ (1 :: wideL [] (2 ^ k - 1))
def extT (t : Tow) (d : List Rat) : Tow := t ++ [wideL d (2 ^ t.length)]
def ofL (q : Rat) : List Rat := shortL [q]

theorem inv_phi {K : Type} [OFd K] (ι : Hom Rat K) {q : Rat} (h : q ≠ 0) : ι.φ q⁻¹ * ι.φ q = 1 := by
  rw [← ι.mul, Rat.inv_mul_cancel _ h, ι.one]

section val4
variable {K : Type} [OFd K] (ι : Hom Rat K) (s : Nat → K)
theorem invL_ok {t : Tow} : ∀ (k : Nat) (a : List Rat), ShT k t → Model ι s t k → Sh k a → lv ι s k a ≠ 0 →
    Sh k (invL t k a) ∧ lv ι s k (invL t k a) * lv ι s k a = 1
  | 0, a, _, _, ha, hne => by
    unfold invL
    refine ⟨Sh.single 0 _, ?_⟩
    rw [lv_one]
    have e : lv ι s 0 a = ι.φ (a.getD 0 0) := rfl
    rw [e] at hne ⊢
    exact inv_phi ι fun h => hne (by rw [h, ι.zero])
  | k + 1, a, hT, hM, ha, hne => by
    have hT' : ShT k t := fun j hj => hT j (by omega)
    have hM' : Model ι s t k := ⟨fun j hj => hM.nn j (by omega), fun j hj => hM.sq j (by omega)⟩
    unfold invL
    have hs := shortL_sh ha
    rw [← lv_short ι s ha] at hne ⊢
    generalize shortL a = b at hs hne
    rcases hs with rfl | ⟨j, hj1, hj2⟩
    · exact absurd (lv_nil ι s _) hne
    · simp only
      cases j with
      | zero =>
        have h1 : b.length = 1 := hj2
        rw [if_pos h1]
        refine ⟨Sh.single _ _, ?_⟩
        have e : lv ι s (k + 1) b = ι.φ (b.getD 0 0) := lv_up ι s (j := 0) (by omega) (by omega)
        rw [lv_single, e]
        rw [e] at hne
        exact inv_phi ι fun h => hne (by rw [h, ι.zero])
      | succ j =>
        have e2 : 2 ^ (j + 1) = 2 ^ j + 2 ^ j := by rw [Nat.pow_succ]; omega
        have pj' := pow_pos' j
        have hn : b.length / 2 = 2 ^ j := by rw [hj2, half_pow]
        rw [if_neg (by omega), hn]
        have low : ∀ l : List Rat, l.length ≤ 2 ^ j → lv ι s k l = lv ι s j l := fun l hl => lv_up ι s hl (by omega)
        have sx : Sh k (b.take (2 ^ j)) := .inr ⟨j, by omega, by rw [List.length_take]; omega⟩
        have sy : Sh k (b.drop (2 ^ j)) := .inr ⟨j, by omega, by rw [List.length_drop]; omega⟩
        have hd := hT j (by omega)
        have sd : Sh k (t.getD j []) := .inr ⟨j, by omega, hd⟩
        have vb : lv ι s (k + 1) b = lv ι s k (b.take (2 ^ j)) + lv ι s k (b.drop (2 ^ j)) * s j := by
          rw [lv_up ι s (j := j + 1) (by omega) (by omega), lv_half ι s b, low _ (by rw [List.length_take]; omega), low _ (by rw [List.length_drop]; omega)]
        have sq : s j * s j = lv ι s k (t.getD j []) := by rw [hM.sq j (by omega), low _ (by omega)]
        obtain ⟨s1, v1, -⟩ := tmsL_ok ι s k _ _ hT' hM' sx sx
        obtain ⟨s2, v2, -⟩ := tmsL_ok ι s k _ _ hT' hM' sy sy
        obtain ⟨s3, v3, -⟩ := tmsL_ok ι s k _ _ hT' hM' s2 sd
        have hnk : Sh k (normL t k b) ∧ lv ι s k (normL t k b) = lv ι s k (b.take (2 ^ j)) * lv ι s k (b.take (2 ^ j)) - lv ι s k (b.drop (2 ^ j)) * lv ι s k (b.drop (2 ^ j)) * lv ι s k (t.getD j []) := by
          unfold normL
          simp only [hn, log2_pow]
          refine ⟨s1.plus s3.minus, ?_⟩
          rw [lv_plus, lv_minus, v1, v3, v2, sub_def']
        rw [signL_ok ι s k _ hT' hM' hnk.1]
        rw [vb] at hne ⊢
        rw [← sq] at hnk
        split
        · rename_i hz
          rw [sg_eq_zero, hnk.2] at hz
          -- then x = y s, and the value is 2 x
          have hp : (lv ι s k (b.take (2 ^ j)) + lv ι s k (b.drop (2 ^ j)) * s j) * (lv ι s k (b.take (2 ^ j)) - lv ι s k (b.drop (2 ^ j)) * s j) = 0 := by
            rw [← hz]; exact rg [lv ι s k (b.take (2 ^ j)), lv ι s k (b.drop (2 ^ j)), s j] (by kernel_rfl)
          have he := sub_zero_iff.1 ((mul_eq_zero hp).resolve_left hne)
          have hv : lv ι s k (plusL (b.take (2 ^ j)) (b.take (2 ^ j))) = lv ι s k (b.take (2 ^ j)) + lv ι s k (b.drop (2 ^ j)) * s j := by
            rw [lv_plus, ← he]
          obtain ⟨i1, i2⟩ := invL_ok k _ hT' hM' (sx.plus sx) (by rw [hv]; exact hne)
          refine ⟨i1.mono (by omega), ?_⟩
          rw [lv_up ι s (j := k) (k := k + 1) i1.len (by omega), ← hv]
          exact i2
        · rename_i hz
          have hz' : lv ι s k (normL t k b) ≠ 0 := fun e => hz (sg_eq_zero.2 e)
          obtain ⟨i1, i2⟩ := invL_ok k _ hT' hM' hnk.1 hz'
          have lc : (joinL (b.take (2 ^ j)) (minusL (b.drop (2 ^ j))) (2 ^ j)).length = 2 ^ (j + 1) := by rw [joinL_len]; omega
          have sc : Sh (k + 1) (joinL (b.take (2 ^ j)) (minusL (b.drop (2 ^ j))) (2 ^ j)) := .inr ⟨j + 1, by omega, lc⟩
          have vc : lv ι s (k + 1) (joinL (b.take (2 ^ j)) (minusL (b.drop (2 ^ j))) (2 ^ j)) = lv ι s k (b.take (2 ^ j)) + -lv ι s k (b.drop (2 ^ j)) * s j := by
            rw [lv_up ι s (j := j + 1) (by omega) (by omega), lv_join, lv_minus, low _ (by rw [List.length_take]; omega), low _ (by rw [List.length_drop]; omega)]
          obtain ⟨q1, q2, -⟩ := tmsL_ok ι s (k + 1) _ _ hT hM sc (i1.mono (by omega : k ≤ k + 1))
          refine ⟨q1, ?_⟩
          rw [q2, vc, lv_up ι s (j := k) (k := k + 1) (l := invL t k (normL t k b)) i1.len (by omega)]
          rw [hnk.2] at i2
          exact rg1 [lv ι s k (b.take (2 ^ j)), lv ι s k (b.drop (2 ^ j)), s j, lv ι s k (invL t k (normL t k b))] 1 i2 (by kernel_rfl)
end val4

/-! ### Sizes of inverses -/
theorem tmsL_nil (t : Tow) (k : Nat) (b : List Rat) : tmsL t k [] b = [] := by
  cases k <;> · unfold tmsL; rw [if_pos (by rw [zeroL_nil]; rfl)]
theorem normL_nil (t : Tow) (k : Nat) : normL t k [] = [] := by
  unfold normL
  simp only [List.take_nil, List.drop_nil, tmsL_nil]
  rfl
def ib (δ : Nat) : Nat → Nat → Nat
  | 0, n => n
  | k + 1, n => n + n + ib δ k (n + n + mkk (k + 1) * δ + ck (k + 1)) + mkk (k + 1) * δ + ck (k + 1)
theorem ib_mono (δ : Nat) : ∀ (k : Nat) {m n : Nat}, m ≤ n → ib δ k m ≤ ib δ k n
  | 0, _, _, h => h
  | k + 1, m, n, h => by
    have := ib_mono δ k (m := m + m + mkk (k + 1) * δ + ck (k + 1)) (n := n + n + mkk (k + 1) * δ + ck (k + 1)) (by omega)
    simp only [ib]; omega
theorem ib_ge (δ : Nat) : ∀ (k n : Nat), n ≤ ib δ k n
  | 0, _ => Nat.le_refl _
  | k + 1, n => by simp only [ib]; omega
theorem Bt.inv1 {n : Nat} {a : List Rat} (h : Bt n a) : Bt n [(a.getD 0 0)⁻¹] := by
  obtain ⟨D, B, h1, h2, h3, h4⟩ := h
  obtain ⟨z, hz, hb⟩ := h4 0
  generalize a.getD 0 0 = q at *
  by_cases hq : q = 0
  · rw [hq, Rat.inv_zero]
    exact ⟨D, B, h1, h2, h3, fun i => by
      cases i with
      | zero => exact ⟨0, by simp, by simp⟩
      | succ i => exact ⟨0, by simp, by simp⟩⟩
  · have hD : ((D : Nat) : Rat) ≠ 0 := by
      intro e
      have : ((D : Int) : Rat) = 0 := e
      have := Rat.intCast_eq_zero_iff.1 this
      omega
    have hz0 : z ≠ 0 := by
      intro e
      rw [e] at hz
      rcases Rat.mul_eq_zero.1 hz with h | h
      · exact hq h
      · exact hD h
    have key : q⁻¹ * (z : Rat) = (D : Rat) := by rw [← hz, ← Rat.mul_assoc, Rat.inv_mul_cancel _ hq, Rat.one_mul]
    refine ⟨z.natAbs, D, by omega, by omega, h2, fun i => ?_⟩
    cases i with
    | zero =>
      show ∃ y : Int, q⁻¹ * _ = _ ∧ _
      rcases Int.natAbs_eq z with e | e
      · refine ⟨D, ?_, by simp⟩
        have e' : ((z.natAbs : Nat) : Rat) = (z : Rat) := by
          have : ((z.natAbs : Int) : Rat) = (z : Rat) := by rw [← e]
          exact this
        rw [e', key]; rfl
      · refine ⟨-D, ?_, by simp⟩
        have e' : ((z.natAbs : Nat) : Rat) = -(z : Rat) := by
          have : ((z.natAbs : Int) : Rat) = ((-z : Int) : Rat) := by congr 1; omega
          rw [Rat.intCast_neg] at this
          exact this
        rw [e', Rat.mul_neg, key, Rat.intCast_neg]; rfl
    | succ i => exact ⟨0, by simp, by simp⟩
theorem Bt.inv {t : Tow} {δ : Nat} (hT : BtT δ t) : ∀ (k n : Nat) (a : List Rat), ShT k t → Sh k a → Bt n a → Bt (ib δ k n) (invL t k a)
  | 0, n, a, _, hs, h => h.inv1
  | k + 1, n, a, hS, hs, h => by
    have hS' : ShT k t := fun j hj => hS j (by omega)
    have hb := h.short hs
    unfold invL
    have hs' := shortL_sh hs
    generalize shortL a = b at hb hs'
    simp only
    split
    · exact hb.inv1.mono (ib_ge δ (k + 1) n)
    · rename_i h1
      have hnorm := hb.norm hT k
      have cj := (hb.take (b.length / 2)).join (hb.drop (b.length / 2)).minus (b.length / 2)
      split
      · have i1 := Bt.inv hT k _ _ hS' (by
          rcases hs' with rfl | ⟨j, hj1, hj2⟩
          · exact .inl rfl
          · cases j with
            | zero => exact absurd hj2 h1
            | succ j =>
              rw [hj2, half_pow]
              have e2 : 2 ^ (j + 1) = 2 ^ j + 2 ^ j := by rw [Nat.pow_succ]; omega
              have sx : Sh k (b.take (2 ^ j)) := .inr ⟨j, by omega, by rw [List.length_take]; omega⟩
              exact sx.plus sx) ((hb.take (b.length / 2)).plus (hb.take (b.length / 2)))
        refine i1.mono ?_
        have := ib_mono δ k (m := n + n + 1) (n := n + n + mkk (k + 1) * δ + ck (k + 1)) (by simp only [ck]; omega)
        simp only [ib]; omega
      · have sN : Sh k (normL t k b) := by
          rcases hs' with rfl | ⟨j, hj1, hj2⟩
          · rw [normL_nil]; exact .inl rfl
          · cases j with
            | zero => exact absurd hj2 h1
            | succ j => exact normL_sh hS (by omega) hj2 k (by omega) (by omega)
        have i1 := Bt.inv hT k _ _ hS' sN hnorm
        exact (cj.times hT i1 (k + 1)).mono (by simp only [ib]; omega)
end Fld
end Lw
