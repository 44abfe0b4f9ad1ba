/- Certificates read, the reference's best choice: program and reference, run. No condition. -/
import Derived.Test.YtobmipmefimfpaaGreatDoorLwKg
namespace Lw
open Go Go.RowKit Go.Proofs

variable {G : World → Prop}
theorem cmp_ge_dec (a b : Rat) : decide (cmpQ a b ≥ 0) = decide (b ≤ a) := by
  by_cases h : b ≤ a
  · rw [cmp_geT h, decide_eq_true h]
  · rw [cmp_geF h, decide_eq_false h]

theorem PProves (hG : Steady G) {y : Cat} (h : y.fine) {cost : Rat} (sc : SzQ 3500 cost) : ∀ {t : Bt} {lo hi : Ix}, t.wf → lo.le hi → hi.lt y.size →
    Spec Tryz.prog G 54 [y.raw.dat, Bt.dat t, lo.dat, hi.dat, F cost] (.tup [bool (proveT y.low cost lo hi t), .lit .nilIface])
  | .leaf a i, lo, hi, _, hle, hlt => by
    have kb := KB_eq
    have bd := Bound49 (G := G) hG h hle hlt
    have cm := FCmp_spec (G := G) hG (low_sz h hle hlt).isQ sc.isQ (by omega) (by omega)
    show Spec _ _ _ _ (.tup [bool (decide (cost ≤ y.low lo hi)), .lit .nilIface])
    generalize y.low lo hi = q at bd cm
    exact Spec.of_run hG Tryz.func54 (ro := [5, 6, 7, 8, 9]) (m := 60) [.call bd, .call cm, .eq 35 (Lw.eqB (cmp_ge_dec q cost))] (by kernel_rfl)
  | .odd a i n, lo, hi, hw, hle, hlt => by
    have e1 := eq_k (n := n) (k := 0)
    rw [decide_eq_false hw.1] at e1
    have e2 := ne_k (n := n) (k := 2)
    rw [decide_eq_true hw.2] at e2
    exact Spec.of_run hG Tryz.func54 (ro := [5, 6, 7, 8, 9]) (m := 60) [.eq 21 (Lw.eqB e1), .eq 41 (Lw.eqB e2)] (by kernel_rfl)
  | .two a i l r, lo, hi, hw, hle, hlt => by
    unfold proveT
    by_cases b1 : 0 ≤ a
    case neg =>
      rw [if_neg (fun g => b1 g.1)]
      have e1 : decide (a < 0) = true := decide_eq_true (by omega)
      exact Spec.of_run hG Tryz.func54 (ro := [5, 6, 7, 8, 9]) (m := 60) [.eq 45 (Lw.eqB e1)] (by kernel_rfl)
    have e1 : decide (a < 0) = false := decide_eq_false (by omega)
    by_cases b2 : a ≤ 3
    case neg =>
      rw [if_neg (fun g => b2 g.2.1)]
      have e2 : decide (a ≥ 4) = true := decide_eq_true (by omega)
      exact Spec.of_run hG Tryz.func54 (ro := [5, 6, 7, 8, 9]) (m := 60) [.eq 45 (Lw.eqB e1), .eq 50 (Lw.eqB e2)] (by kernel_rfl)
    have e2 : decide (a ≥ 4) = false := decide_eq_false (by omega)
    by_cases b3 : (lo.get a.toNat : Int) ≤ i
    case neg =>
      rw [if_neg (fun g => b3 g.2.2.1)]
      have e3 : decide (i < Int.ofNat (lo.get a.toNat)) = true := decide_eq_true (by simp only [Int.ofNat_eq_natCast]; omega)
      obtain ⟨j, rfl⟩ : ∃ j : Nat, a = Int.ofNat j := ⟨a.toNat, by simp only [Int.ofNat_eq_natCast]; omega⟩
      have hj : j < 4 := by simp only [Int.ofNat_eq_natCast] at b2; omega
      clear b1 b2 b3
      rcases get_cases hj with rfl | rfl | rfl | rfl <;> exact Spec.of_run hG Tryz.func54 (ro := [5, 6, 7, 8, 9]) (m := 60) [.eq 45 (Lw.eqB e1), .eq 50 (Lw.eqB e2), .eq 59 (Lw.eqB e3)] (by kernel_rfl)
    have e3 : decide (i < Int.ofNat (lo.get a.toNat)) = false := decide_eq_false (by simp only [Int.ofNat_eq_natCast]; omega)
    by_cases b4 : i < (hi.get a.toNat : Int)
    case neg =>
      rw [if_neg (fun g => b4 g.2.2.2)]
      have e4 : decide (i ≥ Int.ofNat (hi.get a.toNat)) = true := decide_eq_true (by simp only [Int.ofNat_eq_natCast]; omega)
      obtain ⟨j, rfl⟩ : ∃ j : Nat, a = Int.ofNat j := ⟨a.toNat, by simp only [Int.ofNat_eq_natCast]; omega⟩
      have hj : j < 4 := by simp only [Int.ofNat_eq_natCast] at b2; omega
      clear b1 b2 b3 b4
      rcases get_cases hj with rfl | rfl | rfl | rfl <;> exact Spec.of_run hG Tryz.func54 (ro := [5, 6, 7, 8, 9]) (m := 60) [.eq 45 (Lw.eqB e1), .eq 50 (Lw.eqB e2), .eq 59 (Lw.eqB e3), .eq 68 (Lw.eqB e4)] (by kernel_rfl)
    have e4 : decide (i ≥ Int.ofNat (hi.get a.toNat)) = false := decide_eq_false (by simp only [Int.ofNat_eq_natCast]; omega)
    rw [if_pos ⟨b1, b2, b3, b4⟩]
    obtain ⟨j, rfl⟩ : ∃ j : Nat, a = Int.ofNat j := ⟨a.toNat, by simp only [Int.ofNat_eq_natCast]; omega⟩
    have hj : j < 4 := by simp only [Int.ofNat_eq_natCast] at b2; omega
    have ej : (Int.ofNat j).toNat = j := rfl
    rw [ej] at b3 b4 e3 e4 ⊢
    obtain ⟨v, rfl⟩ : ∃ v : Nat, i = Int.ofNat v := ⟨i.toNat, by simp only [Int.ofNat_eq_natCast]; omega⟩
    have ev : (Int.ofNat v).toNat = v := rfl
    rw [ev]
    have v1 : lo.get j ≤ v := by simp only [Int.ofNat_eq_natCast] at b3; omega
    have v2 : v < hi.get j := by simp only [Int.ofNat_eq_natCast] at b4; omega
    have v3 : v < 4 := by
      obtain ⟨z0, z1, z2, z3⟩ := Cat.size4 h
      obtain ⟨u0, u1, u2, u3⟩ := hlt
      rcases get_cases hj with rfl | rfl | rfl | rfl <;> simp [Ix.get] at v2 <;> omega
    obtain ⟨k1, k2, -, -⟩ := set_le hj hle v1 v2
    have p1 := PProves hG h sc (t := l) hw.1 k1 (Ix.lt_of_le (set_le_hi hj v2) hlt)
    have p2 := PProves hG h sc (t := r) hw.2 k2 hlt
    generalize proveT y.low cost (lo.set j (v + 1)) hi r = pr at p2
    have sv := eqS (nat_succ' (i := v) (n := 9) (by omega) (by omega))
    clear b1 b2 b3 b4 k1 k2 v1 v2
    cases hp : proveT y.low cost lo (hi.set j v) l with
    | false =>
      rw [hp] at p1
      rcases get_cases hj with rfl | rfl | rfl | rfl <;> exact Spec.of_run hG Tryz.func54 (ro := [5, 6, 7, 8, 9]) (m := 60) [.eq 45 (Lw.eqB e1), .eq 50 (Lw.eqB e2), .eq 59 (Lw.eqB e3), .eq 68 (Lw.eqB e4), .eq 80 sv, .call p1] (by kernel_rfl)
    | true =>
      rw [hp] at p1
      rcases get_cases hj with rfl | rfl | rfl | rfl <;> exact Spec.of_run hG Tryz.func54 (ro := [5, 6, 7, 8, 9]) (m := 60) [.eq 45 (Lw.eqB e1), .eq 50 (Lw.eqB e2), .eq 59 (Lw.eqB e3), .eq 68 (Lw.eqB e4), .eq 80 sv, .call p1, .call p2] (by kernel_rfl)
/-! ### the reference's best choice -/
def bsK (y : Cat) (k : Nat) : Bool × List D := match k with
  | 0 => (false, Ix.zero.cells ++ zeroF)
  | k + 1 => (true, chC (bestN y.size y.f k))
def L0 (y : Cat) (g : Nat) (s : Bool × List D) : St :=
  lay 61 [(1, .rptr y.raw.cells), (2, .ptr 0 0), (3, .ptr 1 0), (4, bool s.1), (14, nat (y.g.map rawOf).length), (15, nat g)] [(0, Ix.zero.cells ++ zeroF), (1, s.2)]
def L1 (y : Cat) (g a : Nat) (s : Bool × List D) : St :=
  lay 61 [(1, .rptr y.raw.cells), (2, .ptr 0 0), (3, .ptr 1 0), (4, bool s.1), (14, nat (y.g.map rawOf).length), (15, nat g), (5, nat g), (20, nat (y.a.map rawOf).length), (21, nat a)] [(0, Ix.zero.cells ++ zeroF), (1, s.2)]
def L2 (y : Cat) (g a b : Nat) (s : Bool × List D) : St :=
  lay 61 [(1, .rptr y.raw.cells), (2, .ptr 0 0), (3, .ptr 1 0), (4, bool s.1), (14, nat (y.g.map rawOf).length), (15, nat g), (5, nat g), (20, nat (y.a.map rawOf).length), (21, nat a), (6, nat a), (26, nat (y.b.map rawOf).length), (27, nat b)] [(0, Ix.zero.cells ++ zeroF), (1, s.2)]
def L3 (y : Cat) (g a b r : Nat) (s : Bool × List D) : St :=
  lay 61 [(1, .rptr y.raw.cells), (2, .ptr 0 0), (3, .ptr 1 0), (4, bool s.1), (14, nat (y.g.map rawOf).length), (15, nat g), (5, nat g), (20, nat (y.a.map rawOf).length), (21, nat a), (6, nat a), (26, nat (y.b.map rawOf).length), (27, nat b), (7, nat b), (32, nat (y.c.map rawOf).length), (33, nat r)] [(0, Ix.zero.cells ++ zeroF), (1, s.2)]
theorem ltR {l : List Rat} {i : Nat} (h : i < l.length) : decide (Int.ofNat i < Int.ofNat (l.map rawOf).length) = true := lt_true (by rw [List.length_map]; exact h)
theorem ltRF (l : List Rat) : decide (Int.ofNat l.length < Int.ofNat (l.map rawOf).length) = false := lt_false (by rw [List.length_map]; exact Nat.le_refl _)
end Lw
