/- Trees of boxes and the reference's best choice, run. No condition. -/
import Derived.Test.YtobmipmefimfpaaGreatDoorLwKf
namespace Lw
open Go Go.RowKit Go.Proofs

/-! ### trees as data -/
def Bt.axis : Bt → Int
  | .leaf a _ => a
  | .two a _ _ _ => a
  | .odd a _ _ => a
def Bt.pos : Bt → Int
  | .leaf _ i => i
  | .two _ i _ _ => i
  | .odd _ i _ => i
def Bt.num : Bt → Nat
  | .leaf _ _ => 0
  | .two _ _ _ _ => 2
  | .odd _ _ n => n
def Bt.sub : Bt → List D
  | .leaf _ _ => []
  | .two _ _ l r => [int l.axis, int l.pos, .row l.num false l.sub, int r.axis, int r.pos, .row r.num false r.sub]
  | .odd _ _ _ => []
def Bt.cells (t : Bt) : List D := [int t.axis, int t.pos, .row t.num false t.sub]
def Bt.dat (t : Bt) : D := .agg t.cells
/-- The others have neither no kids nor two. -/
def Bt.wf : Bt → Prop
  | .leaf _ _ => True
  | .two _ _ l r => l.wf ∧ r.wf
  | .odd _ _ n => n ≠ 0 ∧ n ≠ 2
theorem grow_wf (low : Ix → Ix → Rat) (cost : Rat) : ∀ (m : Nat) (lo hi : Ix), (growT low cost m lo hi).wf
  | 0, _, _ => trivial
  | m + 1, lo, hi => by
    unfold growT
    split
    · trivial
    · exact ⟨grow_wf low cost m _ _, grow_wf low cost m _ _⟩

variable {G : World → Prop}
theorem sub_ix {a b : Nat} (h : a ≤ b) (hb : b ≤ 4) : IntKind.wrap .i64 (Int.ofNat b - Int.ofNat a) = Int.ofNat (b - a) := by
  rw [wrapS (by simp only [Int.ofNat_eq_natCast]; omega) (by simp only [Int.ofNat_eq_natCast]; omega)]
  simp only [Int.ofNat_eq_natCast]; omega
theorem add_ix {a b : Nat} (ha : a ≤ 4) (hb : b ≤ 4) : IntKind.wrap .i64 (Int.ofNat a + Int.ofNat b) = Int.ofNat (a + b) := by
  rw [wrapS (by simp only [Int.ofNat_eq_natCast]; omega) (by simp only [Int.ofNat_eq_natCast]; omega)]
  simp only [Int.ofNat_eq_natCast]; omega
theorem half_ix {s : Nat} (h : s ≤ 8) : IntKind.wrap .i64 ((Int.ofNat s).tdiv 2) = Int.ofNat (s / 2) := by
  have e : (Int.ofNat s).tdiv 2 = Int.ofNat (s / 2) := rfl
  rw [e, wrapS (by simp only [Int.ofNat_eq_natCast]; omega) (by simp only [Int.ofNat_eq_natCast]; omega)]
def dd (lo hi : Ix) (i : Nat) : Nat := hi.get i - lo.get i
theorem axis_eq (lo hi : Ix) : axisOf lo hi = (if dd lo hi (if dd lo hi (if dd lo hi 0 < dd lo hi 1 then 1 else 0) < dd lo hi 2 then 2 else (if dd lo hi 0 < dd lo hi 1 then 1 else 0)) < dd lo hi 3 then 3 else (if dd lo hi (if dd lo hi 0 < dd lo hi 1 then 1 else 0) < dd lo hi 2 then 2 else (if dd lo hi 0 < dd lo hi 1 then 1 else 0))) := rfl
theorem Ix.lt_of_le {a b n : Ix} (h : a.le b) (h2 : b.lt n) : a.lt n := ⟨Nat.lt_of_le_of_lt h.1 h2.1, Nat.lt_of_le_of_lt h.2.1 h2.2.1, Nat.lt_of_le_of_lt h.2.2.1 h2.2.2.1, Nat.lt_of_le_of_lt h.2.2.2 h2.2.2.2⟩
theorem set_le_hi {hi : Ix} {i v : Nat} (h4 : i < 4) (v2 : v < hi.get i) : (hi.set i v).le hi := by
  rcases get_cases h4 with rfl | rfl | rfl | rfl <;> simp [Ix.get] at v2 <;> simp [Ix.set, Ix.le] <;> omega
theorem set_ge_lo {lo : Ix} {i v : Nat} (h4 : i < 4) (v1 : lo.get i ≤ v) : lo.le (lo.set i (v + 1)) := by
  rcases get_cases h4 with rfl | rfl | rfl | rfl <;> simp [Ix.get] at v1 <;> simp [Ix.set, Ix.le] <;> omega
theorem Ix.le_trans {a b c : Ix} (h : a.le b) (h2 : b.le c) : a.le c := ⟨Nat.le_trans h.1 h2.1, Nat.le_trans h.2.1 h2.2.1, Nat.le_trans h.2.2.1 h2.2.2.1, Nat.le_trans h.2.2.2 h2.2.2.2⟩
theorem Ix.le_refl (a : Ix) : a.le a := ⟨Nat.le_refl _, Nat.le_refl _, Nat.le_refl _, Nat.le_refl _⟩

/-! ### certificates are made -/
theorem PGrow (hG : Steady G) {y : Cat} (h : y.fine) {cost : Rat} (sc : SzQ 3500 cost) : ∀ {m : Nat} {lo hi : Ix}, lo.le hi → hi.lt y.size → vol lo hi < m → (∀ x : Ix, lo.le x → x.le hi → cost ≤ y.low x x) →
    Spec Tryz.prog G 52 [y.raw.dat, lo.dat, hi.dat, F cost] (.tup [(growT y.low cost m lo hi).dat, .lit .nilIface])
  | 0, _, _, _, _, hv, _ => by omega
  | m + 1, lo, hi, hle, hlt, hv, hc => by
    have kb := KB_eq
    have bd := Bound49 (G := G) hG h hle hlt
    have cm := FCmp_spec (G := G) hG (low_sz h hle hlt).isQ sc.isQ (by omega) (by omega)
    by_cases hk : cost ≤ y.low lo hi
    · have e : growT y.low cost (m + 1) lo hi = .leaf 0 0 := if_pos hk
      rw [e]
      generalize hq : y.low lo hi = q at bd cm hk
      exact Spec.of_run hG Tryz.func52 (ro := [4, 5, 6, 7]) (m := 60) [.call bd, .call cm, .eq 32 (Lw.eqB (cmp_geT hk))] (by kernel_rfl)
    · have e : growT y.low cost (m + 1) lo hi = .two (axisOf lo hi) (midOf lo hi (axisOf lo hi)) (growT y.low cost m lo (hi.set (axisOf lo hi) (midOf lo hi (axisOf lo hi)))) (growT y.low cost m (lo.set (axisOf lo hi) (midOf lo hi (axisOf lo hi) + 1)) hi) := if_neg hk
      rw [e]
      have hpos : 0 < vol lo hi := by
        rcases Nat.eq_zero_or_pos (vol lo hi) with e | e
        · have e2 := vol_zero hle e
          subst e2
          exact absurd (hc lo (Ix.le_refl _) (Ix.le_refl _)) hk
        · exact e
      have hax := vol_axis hle hpos
      have h4 := (axis_max lo hi).1
      have v1 : lo.get (axisOf lo hi) ≤ midOf lo hi (axisOf lo hi) := by unfold midOf; omega
      have v2 : midOf lo hi (axisOf lo hi) < hi.get (axisOf lo hi) := by unfold midOf; omega
      obtain ⟨k1, k2, k3, k4⟩ := set_le h4 hle v1 v2
      have g1 := set_le_hi h4 v2
      have g2 := set_ge_lo (lo := lo) h4 v1
      have ih1 := PGrow hG h sc (m := m) k1 (Ix.lt_of_le g1 hlt) (by omega) (fun x a b => hc x a (Ix.le_trans b g1))
      have ih2 := PGrow hG h sc (m := m) k2 hlt (by omega) (fun x a b => hc x (Ix.le_trans g2 a) b)
      generalize growT y.low cost m lo (hi.set (axisOf lo hi) (midOf lo hi (axisOf lo hi))) = l at ih1
      generalize growT y.low cost m (lo.set (axisOf lo hi) (midOf lo hi (axisOf lo hi) + 1)) hi = r at ih2
      have ax := axis_eq lo hi
      obtain ⟨z0, z1, z2, z3⟩ := Cat.size4 h
      obtain ⟨l0, l1, l2, l3⟩ := hle
      obtain ⟨u0, u1, u2, u3⟩ := hlt
      have s0 := eqS (sub_ix l0 (by omega))
      have s1 := eqS (sub_ix l1 (by omega))
      have s2 := eqS (sub_ix l2 (by omega))
      have s3 := eqS (sub_ix l3 (by omega))
      generalize hq : y.low lo hi = q at bd cm hk
      have ge := Lw.eqB (cmp_geF hk)
      have r0 := Lw.eqB (gtk_false (Nat.le_refl (dd lo hi 0)))
      by_cases c1 : dd lo hi 0 < dd lo hi 1
      · rw [if_pos c1] at ax
        have q1 := Lw.eqB (gtk_true (show ¬ dd lo hi 1 ≤ dd lo hi 0 by omega))
        by_cases c2 : dd lo hi 1 < dd lo hi 2
        · rw [if_pos c2] at ax
          have q2 := Lw.eqB (gtk_true (show ¬ dd lo hi 2 ≤ dd lo hi 1 by omega))
          by_cases c3 : dd lo hi 2 < dd lo hi 3
          · rw [if_pos c3] at ax
            have q3 := Lw.eqB (gtk_true (show ¬ dd lo hi 3 ≤ dd lo hi 2 by omega))
            rw [ax] at ih1 ih2 ⊢
            exact Spec.of_run hG Tryz.func52 (ro := [4, 5, 6, 7]) (m := 60) [.call bd, .call cm, .eq 32 ge, .eq 45 s0, .eq 52 s0, .eq 53 r0, .eq 45 s1, .eq 52 s0, .eq 53 q1, .eq 45 s2, .eq 52 s1, .eq 53 q2, .eq 45 s3, .eq 52 s2, .eq 53 q3, .eq 62 (eqS (add_ix (a := lo.c) (b := hi.c) (by omega) (by omega))), .eq 63 (eqS (half_ix (s := lo.c + hi.c) (by omega))), .eq 70 (eqS (nat_succ' (i := (lo.c + hi.c) / 2) (n := 9) (by omega) (by omega))), .call ih1, .call ih2] (by kernel_rfl)
          · rw [if_neg c3] at ax
            have q3 := Lw.eqB (gtk_false (show dd lo hi 3 ≤ dd lo hi 2 by omega))
            rw [ax] at ih1 ih2 ⊢
            exact Spec.of_run hG Tryz.func52 (ro := [4, 5, 6, 7]) (m := 60) [.call bd, .call cm, .eq 32 ge, .eq 45 s0, .eq 52 s0, .eq 53 r0, .eq 45 s1, .eq 52 s0, .eq 53 q1, .eq 45 s2, .eq 52 s1, .eq 53 q2, .eq 45 s3, .eq 52 s2, .eq 53 q3, .eq 62 (eqS (add_ix (a := lo.b) (b := hi.b) (by omega) (by omega))), .eq 63 (eqS (half_ix (s := lo.b + hi.b) (by omega))), .eq 70 (eqS (nat_succ' (i := (lo.b + hi.b) / 2) (n := 9) (by omega) (by omega))), .call ih1, .call ih2] (by kernel_rfl)
        · rw [if_neg c2] at ax
          have q2 := Lw.eqB (gtk_false (show dd lo hi 2 ≤ dd lo hi 1 by omega))
          by_cases c3 : dd lo hi 1 < dd lo hi 3
          · rw [if_pos c3] at ax
            have q3 := Lw.eqB (gtk_true (show ¬ dd lo hi 3 ≤ dd lo hi 1 by omega))
            rw [ax] at ih1 ih2 ⊢
            exact Spec.of_run hG Tryz.func52 (ro := [4, 5, 6, 7]) (m := 60) [.call bd, .call cm, .eq 32 ge, .eq 45 s0, .eq 52 s0, .eq 53 r0, .eq 45 s1, .eq 52 s0, .eq 53 q1, .eq 45 s2, .eq 52 s1, .eq 53 q2, .eq 45 s3, .eq 52 s1, .eq 53 q3, .eq 62 (eqS (add_ix (a := lo.c) (b := hi.c) (by omega) (by omega))), .eq 63 (eqS (half_ix (s := lo.c + hi.c) (by omega))), .eq 70 (eqS (nat_succ' (i := (lo.c + hi.c) / 2) (n := 9) (by omega) (by omega))), .call ih1, .call ih2] (by kernel_rfl)
          · rw [if_neg c3] at ax
            have q3 := Lw.eqB (gtk_false (show dd lo hi 3 ≤ dd lo hi 1 by omega))
            rw [ax] at ih1 ih2 ⊢
            exact Spec.of_run hG Tryz.func52 (ro := [4, 5, 6, 7]) (m := 60) [.call bd, .call cm, .eq 32 ge, .eq 45 s0, .eq 52 s0, .eq 53 r0, .eq 45 s1, .eq 52 s0, .eq 53 q1, .eq 45 s2, .eq 52 s1, .eq 53 q2, .eq 45 s3, .eq 52 s1, .eq 53 q3, .eq 62 (eqS (add_ix (a := lo.a) (b := hi.a) (by omega) (by omega))), .eq 63 (eqS (half_ix (s := lo.a + hi.a) (by omega))), .eq 70 (eqS (nat_succ' (i := (lo.a + hi.a) / 2) (n := 9) (by omega) (by omega))), .call ih1, .call ih2] (by kernel_rfl)
      · rw [if_neg c1] at ax
        have q1 := Lw.eqB (gtk_false (show dd lo hi 1 ≤ dd lo hi 0 by omega))
        by_cases c2 : dd lo hi 0 < dd lo hi 2
        · rw [if_pos c2] at ax
          have q2 := Lw.eqB (gtk_true (show ¬ dd lo hi 2 ≤ dd lo hi 0 by omega))
          by_cases c3 : dd lo hi 2 < dd lo hi 3
          · rw [if_pos c3] at ax
            have q3 := Lw.eqB (gtk_true (show ¬ dd lo hi 3 ≤ dd lo hi 2 by omega))
            rw [ax] at ih1 ih2 ⊢
            exact Spec.of_run hG Tryz.func52 (ro := [4, 5, 6, 7]) (m := 60) [.call bd, .call cm, .eq 32 ge, .eq 45 s0, .eq 52 s0, .eq 53 r0, .eq 45 s1, .eq 52 s0, .eq 53 q1, .eq 45 s2, .eq 52 s0, .eq 53 q2, .eq 45 s3, .eq 52 s2, .eq 53 q3, .eq 62 (eqS (add_ix (a := lo.c) (b := hi.c) (by omega) (by omega))), .eq 63 (eqS (half_ix (s := lo.c + hi.c) (by omega))), .eq 70 (eqS (nat_succ' (i := (lo.c + hi.c) / 2) (n := 9) (by omega) (by omega))), .call ih1, .call ih2] (by kernel_rfl)
          · rw [if_neg c3] at ax
            have q3 := Lw.eqB (gtk_false (show dd lo hi 3 ≤ dd lo hi 2 by omega))
            rw [ax] at ih1 ih2 ⊢
            exact Spec.of_run hG Tryz.func52 (ro := [4, 5, 6, 7]) (m := 60) [.call bd, .call cm, .eq 32 ge, .eq 45 s0, .eq 52 s0, .eq 53 r0, .eq 45 s1, .eq 52 s0, .eq 53 q1, .eq 45 s2, .eq 52 s0, .eq 53 q2, .eq 45 s3, .eq 52 s2, .eq 53 q3, .eq 62 (eqS (add_ix (a := lo.b) (b := hi.b) (by omega) (by omega))), .eq 63 (eqS (half_ix (s := lo.b + hi.b) (by omega))), .eq 70 (eqS (nat_succ' (i := (lo.b + hi.b) / 2) (n := 9) (by omega) (by omega))), .call ih1, .call ih2] (by kernel_rfl)
        · rw [if_neg c2] at ax
          have q2 := Lw.eqB (gtk_false (show dd lo hi 2 ≤ dd lo hi 0 by omega))
          by_cases c3 : dd lo hi 0 < dd lo hi 3
          · rw [if_pos c3] at ax
            have q3 := Lw.eqB (gtk_true (show ¬ dd lo hi 3 ≤ dd lo hi 0 by omega))
            rw [ax] at ih1 ih2 ⊢
            exact Spec.of_run hG Tryz.func52 (ro := [4, 5, 6, 7]) (m := 60) [.call bd, .call cm, .eq 32 ge, .eq 45 s0, .eq 52 s0, .eq 53 r0, .eq 45 s1, .eq 52 s0, .eq 53 q1, .eq 45 s2, .eq 52 s0, .eq 53 q2, .eq 45 s3, .eq 52 s0, .eq 53 q3, .eq 62 (eqS (add_ix (a := lo.c) (b := hi.c) (by omega) (by omega))), .eq 63 (eqS (half_ix (s := lo.c + hi.c) (by omega))), .eq 70 (eqS (nat_succ' (i := (lo.c + hi.c) / 2) (n := 9) (by omega) (by omega))), .call ih1, .call ih2] (by kernel_rfl)
          · rw [if_neg c3] at ax
            have q3 := Lw.eqB (gtk_false (show dd lo hi 3 ≤ dd lo hi 0 by omega))
            rw [ax] at ih1 ih2 ⊢
            exact Spec.of_run hG Tryz.func52 (ro := [4, 5, 6, 7]) (m := 60) [.call bd, .call cm, .eq 32 ge, .eq 45 s0, .eq 52 s0, .eq 53 r0, .eq 45 s1, .eq 52 s0, .eq 53 q1, .eq 45 s2, .eq 52 s0, .eq 53 q2, .eq 45 s3, .eq 52 s0, .eq 53 q3, .eq 62 (eqS (add_ix (a := lo.g) (b := hi.g) (by omega) (by omega))), .eq 63 (eqS (half_ix (s := lo.g + hi.g) (by omega))), .eq 70 (eqS (nat_succ' (i := (lo.g + hi.g) / 2) (n := 9) (by omega) (by omega))), .call ih1, .call ih2] (by kernel_rfl)
theorem RTree (hG : Steady G) {y : Cat} (h : y.fine) {cost : Rat} (sc : SzQ 3500 cost) : ∀ {m : Nat} {lo hi : Ix}, lo.le hi → hi.lt y.size → vol lo hi < m → (∀ x : Ix, lo.le x → x.le hi → cost ≤ y.low x x) →
    Spec Tryz.prog G 27 [y.raw.dat, lo.dat, hi.dat, F cost] ((growT y.low cost m lo hi).dat)
  | 0, _, _, _, _, hv, _ => by omega
  | m + 1, lo, hi, hle, hlt, hv, hc => by
    have kb := KB_eq
    have bd := RLower49 (G := G) hG h hle hlt
    have cm := RFCmp_spec (G := G) hG (low_sz h hle hlt).isQ sc.isQ (by omega)
    by_cases hk : cost ≤ y.low lo hi
    · have e : growT y.low cost (m + 1) lo hi = .leaf 0 0 := if_pos hk
      rw [e]
      generalize hq : y.low lo hi = q at bd cm hk
      exact Spec.of_run hG Tryz.func27 (ro := [4, 5, 6, 7]) (m := 60) [.call bd, .call cm, .eq 20 (Lw.eqB (cmp_geT hk))] (by kernel_rfl)
    · have e : growT y.low cost (m + 1) lo hi = .two (axisOf lo hi) (midOf lo hi (axisOf lo hi)) (growT y.low cost m lo (hi.set (axisOf lo hi) (midOf lo hi (axisOf lo hi)))) (growT y.low cost m (lo.set (axisOf lo hi) (midOf lo hi (axisOf lo hi) + 1)) hi) := if_neg hk
      rw [e]
      have hpos : 0 < vol lo hi := by
        rcases Nat.eq_zero_or_pos (vol lo hi) with e | e
        · have e2 := vol_zero hle e
          subst e2
          exact absurd (hc lo (Ix.le_refl _) (Ix.le_refl _)) hk
        · exact e
      have hax := vol_axis hle hpos
      have h4 := (axis_max lo hi).1
      have v1 : lo.get (axisOf lo hi) ≤ midOf lo hi (axisOf lo hi) := by unfold midOf; omega
      have v2 : midOf lo hi (axisOf lo hi) < hi.get (axisOf lo hi) := by unfold midOf; omega
      obtain ⟨k1, k2, k3, k4⟩ := set_le h4 hle v1 v2
      have g1 := set_le_hi h4 v2
      have g2 := set_ge_lo (lo := lo) h4 v1
      have ih1 := RTree hG h sc (m := m) k1 (Ix.lt_of_le g1 hlt) (by omega) (fun x a b => hc x a (Ix.le_trans b g1))
      have ih2 := RTree hG h sc (m := m) k2 hlt (by omega) (fun x a b => hc x (Ix.le_trans g2 a) b)
      generalize growT y.low cost m lo (hi.set (axisOf lo hi) (midOf lo hi (axisOf lo hi))) = l at ih1
      generalize growT y.low cost m (lo.set (axisOf lo hi) (midOf lo hi (axisOf lo hi) + 1)) hi = r at ih2
      have ax := axis_eq lo hi
      obtain ⟨z0, z1, z2, z3⟩ := Cat.size4 h
      obtain ⟨l0, l1, l2, l3⟩ := hle
      obtain ⟨u0, u1, u2, u3⟩ := hlt
      have s0 := eqS (sub_ix l0 (by omega))
      have s1 := eqS (sub_ix l1 (by omega))
      have s2 := eqS (sub_ix l2 (by omega))
      have s3 := eqS (sub_ix l3 (by omega))
      generalize hq : y.low lo hi = q at bd cm hk
      have ge := Lw.eqB (cmp_geF hk)
      have r0 := Lw.eqB (gtk_false (Nat.le_refl (dd lo hi 0)))
      by_cases c1 : dd lo hi 0 < dd lo hi 1
      · rw [if_pos c1] at ax
        have q1 := Lw.eqB (gtk_true (show ¬ dd lo hi 1 ≤ dd lo hi 0 by omega))
        by_cases c2 : dd lo hi 1 < dd lo hi 2
        · rw [if_pos c2] at ax
          have q2 := Lw.eqB (gtk_true (show ¬ dd lo hi 2 ≤ dd lo hi 1 by omega))
          by_cases c3 : dd lo hi 2 < dd lo hi 3
          · rw [if_pos c3] at ax
            have q3 := Lw.eqB (gtk_true (show ¬ dd lo hi 3 ≤ dd lo hi 2 by omega))
            rw [ax] at ih1 ih2 ⊢
            exact Spec.of_run hG Tryz.func27 (ro := [4, 5, 6, 7]) (m := 60) [.call bd, .call cm, .eq 20 ge, .eq 31 s0, .eq 38 s0, .eq 39 r0, .eq 31 s1, .eq 38 s0, .eq 39 q1, .eq 31 s2, .eq 38 s1, .eq 39 q2, .eq 31 s3, .eq 38 s2, .eq 39 q3, .eq 48 (eqS (add_ix (a := lo.c) (b := hi.c) (by omega) (by omega))), .eq 49 (eqS (half_ix (s := lo.c + hi.c) (by omega))), .eq 56 (eqS (nat_succ' (i := (lo.c + hi.c) / 2) (n := 9) (by omega) (by omega))), .call ih1, .call ih2] (by kernel_rfl)
          · rw [if_neg c3] at ax
            have q3 := Lw.eqB (gtk_false (show dd lo hi 3 ≤ dd lo hi 2 by omega))
            rw [ax] at ih1 ih2 ⊢
            exact Spec.of_run hG Tryz.func27 (ro := [4, 5, 6, 7]) (m := 60) [.call bd, .call cm, .eq 20 ge, .eq 31 s0, .eq 38 s0, .eq 39 r0, .eq 31 s1, .eq 38 s0, .eq 39 q1, .eq 31 s2, .eq 38 s1, .eq 39 q2, .eq 31 s3, .eq 38 s2, .eq 39 q3, .eq 48 (eqS (add_ix (a := lo.b) (b := hi.b) (by omega) (by omega))), .eq 49 (eqS (half_ix (s := lo.b + hi.b) (by omega))), .eq 56 (eqS (nat_succ' (i := (lo.b + hi.b) / 2) (n := 9) (by omega) (by omega))), .call ih1, .call ih2] (by kernel_rfl)
        · rw [if_neg c2] at ax
          have q2 := Lw.eqB (gtk_false (show dd lo hi 2 ≤ dd lo hi 1 by omega))
          by_cases c3 : dd lo hi 1 < dd lo hi 3
          · rw [if_pos c3] at ax
            have q3 := Lw.eqB (gtk_true (show ¬ dd lo hi 3 ≤ dd lo hi 1 by omega))
            rw [ax] at ih1 ih2 ⊢
            exact Spec.of_run hG Tryz.func27 (ro := [4, 5, 6, 7]) (m := 60) [.call bd, .call cm, .eq 20 ge, .eq 31 s0, .eq 38 s0, .eq 39 r0, .eq 31 s1, .eq 38 s0, .eq 39 q1, .eq 31 s2, .eq 38 s1, .eq 39 q2, .eq 31 s3, .eq 38 s1, .eq 39 q3, .eq 48 (eqS (add_ix (a := lo.c) (b := hi.c) (by omega) (by omega))), .eq 49 (eqS (half_ix (s := lo.c + hi.c) (by omega))), .eq 56 (eqS (nat_succ' (i := (lo.c + hi.c) / 2) (n := 9) (by omega) (by omega))), .call ih1, .call ih2] (by kernel_rfl)
          · rw [if_neg c3] at ax
            have q3 := Lw.eqB (gtk_false (show dd lo hi 3 ≤ dd lo hi 1 by omega))
            rw [ax] at ih1 ih2 ⊢
            exact Spec.of_run hG Tryz.func27 (ro := [4, 5, 6, 7]) (m := 60) [.call bd, .call cm, .eq 20 ge, .eq 31 s0, .eq 38 s0, .eq 39 r0, .eq 31 s1, .eq 38 s0, .eq 39 q1, .eq 31 s2, .eq 38 s1, .eq 39 q2, .eq 31 s3, .eq 38 s1, .eq 39 q3, .eq 48 (eqS (add_ix (a := lo.a) (b := hi.a) (by omega) (by omega))), .eq 49 (eqS (half_ix (s := lo.a + hi.a) (by omega))), .eq 56 (eqS (nat_succ' (i := (lo.a + hi.a) / 2) (n := 9) (by omega) (by omega))), .call ih1, .call ih2] (by kernel_rfl)
      · rw [if_neg c1] at ax
        have q1 := Lw.eqB (gtk_false (show dd lo hi 1 ≤ dd lo hi 0 by omega))
        by_cases c2 : dd lo hi 0 < dd lo hi 2
        · rw [if_pos c2] at ax
          have q2 := Lw.eqB (gtk_true (show ¬ dd lo hi 2 ≤ dd lo hi 0 by omega))
          by_cases c3 : dd lo hi 2 < dd lo hi 3
          · rw [if_pos c3] at ax
            have q3 := Lw.eqB (gtk_true (show ¬ dd lo hi 3 ≤ dd lo hi 2 by omega))
            rw [ax] at ih1 ih2 ⊢
            exact Spec.of_run hG Tryz.func27 (ro := [4, 5, 6, 7]) (m := 60) [.call bd, .call cm, .eq 20 ge, .eq 31 s0, .eq 38 s0, .eq 39 r0, .eq 31 s1, .eq 38 s0, .eq 39 q1, .eq 31 s2, .eq 38 s0, .eq 39 q2, .eq 31 s3, .eq 38 s2, .eq 39 q3, .eq 48 (eqS (add_ix (a := lo.c) (b := hi.c) (by omega) (by omega))), .eq 49 (eqS (half_ix (s := lo.c + hi.c) (by omega))), .eq 56 (eqS (nat_succ' (i := (lo.c + hi.c) / 2) (n := 9) (by omega) (by omega))), .call ih1, .call ih2] (by kernel_rfl)
          · rw [if_neg c3] at ax
            have q3 := Lw.eqB (gtk_false (show dd lo hi 3 ≤ dd lo hi 2 by omega))
            rw [ax] at ih1 ih2 ⊢
            exact Spec.of_run hG Tryz.func27 (ro := [4, 5, 6, 7]) (m := 60) [.call bd, .call cm, .eq 20 ge, .eq 31 s0, .eq 38 s0, .eq 39 r0, .eq 31 s1, .eq 38 s0, .eq 39 q1, .eq 31 s2, .eq 38 s0, .eq 39 q2, .eq 31 s3, .eq 38 s2, .eq 39 q3, .eq 48 (eqS (add_ix (a := lo.b) (b := hi.b) (by omega) (by omega))), .eq 49 (eqS (half_ix (s := lo.b + hi.b) (by omega))), .eq 56 (eqS (nat_succ' (i := (lo.b + hi.b) / 2) (n := 9) (by omega) (by omega))), .call ih1, .call ih2] (by kernel_rfl)
        · rw [if_neg c2] at ax
          have q2 := Lw.eqB (gtk_false (show dd lo hi 2 ≤ dd lo hi 0 by omega))
          by_cases c3 : dd lo hi 0 < dd lo hi 3
          · rw [if_pos c3] at ax
            have q3 := Lw.eqB (gtk_true (show ¬ dd lo hi 3 ≤ dd lo hi 0 by omega))
            rw [ax] at ih1 ih2 ⊢
            exact Spec.of_run hG Tryz.func27 (ro := [4, 5, 6, 7]) (m := 60) [.call bd, .call cm, .eq 20 ge, .eq 31 s0, .eq 38 s0, .eq 39 r0, .eq 31 s1, .eq 38 s0, .eq 39 q1, .eq 31 s2, .eq 38 s0, .eq 39 q2, .eq 31 s3, .eq 38 s0, .eq 39 q3, .eq 48 (eqS (add_ix (a := lo.c) (b := hi.c) (by omega) (by omega))), .eq 49 (eqS (half_ix (s := lo.c + hi.c) (by omega))), .eq 56 (eqS (nat_succ' (i := (lo.c + hi.c) / 2) (n := 9) (by omega) (by omega))), .call ih1, .call ih2] (by kernel_rfl)
          · rw [if_neg c3] at ax
            have q3 := Lw.eqB (gtk_false (show dd lo hi 3 ≤ dd lo hi 0 by omega))
            rw [ax] at ih1 ih2 ⊢
            exact Spec.of_run hG Tryz.func27 (ro := [4, 5, 6, 7]) (m := 60) [.call bd, .call cm, .eq 20 ge, .eq 31 s0, .eq 38 s0, .eq 39 r0, .eq 31 s1, .eq 38 s0, .eq 39 q1, .eq 31 s2, .eq 38 s0, .eq 39 q2, .eq 31 s3, .eq 38 s0, .eq 39 q3, .eq 48 (eqS (add_ix (a := lo.g) (b := hi.g) (by omega) (by omega))), .eq 49 (eqS (half_ix (s := lo.g + hi.g) (by omega))), .eq 56 (eqS (nat_succ' (i := (lo.g + hi.g) / 2) (n := 9) (by omega) (by omega))), .call ih1, .call ih2] (by kernel_rfl)
end Lw
