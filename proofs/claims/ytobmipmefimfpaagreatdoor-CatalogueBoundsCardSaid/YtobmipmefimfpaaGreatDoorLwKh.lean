/- Certificates read, the reference's best choice: program and reference, run. No condition. -/
import Derived.Test.YtobmipmefimfpaaGreatDoorLwKg
namespace Lw
open Go Go.RowKit Go.Proofs

variable {G : World → Prop}
theorem cmp_ge_dec (a b : Rat) : decide (cmpQ a b ≥ 0) = decide (b ≤ a) := by
  by_cases h : b ≤ a
  · rw [cmp_geT h, decide_eq_true h]
  · rw [cmp_geF h, decide_eq_false h]

theorem PProves (hG : Steady G) {y : Cat} (h : y.fine) {cost : Rat} (sc : SzQ 3500 cost) : ∀ {t : Bt} {lo hi : Ix}, t.wf → lo.le hi → hi.lt y.size →
    Spec Tryz.prog G 54 [y.raw.dat, Bt.dat t, lo.dat, hi.dat, F cost] (.tup [bool (proveT y.low cost lo hi t), .lit .nilIface])
  | .leaf a i, lo, hi, _, hle, hlt => by
    have kb := KB_eq
    have bd := Bound49 (G := G) hG h hle hlt
    have cm := FCmp_spec (G := G) hG (low_sz h hle hlt).isQ sc.isQ (by omega) (by omega)
    show Spec _ _ _ _ (.tup [bool (decide (cost ≤ y.low lo hi)), .lit .nilIface])
    generalize y.low lo hi = q at bd cm
    exact Spec.of_run hG Tryz.func54 (ro := [5, 6, 7, 8, 9]) (m := 60) [.call bd, .call cm, .eq 35 (Lw.eqB (cmp_ge_dec q cost))] (by kernel_rfl)
  | .odd a i n, lo, hi, hw, hle, hlt => by
    have e1 := eq_k (n := n) (k := 0)
    rw [decide_eq_false hw.1] at e1
    have e2 := ne_k (n := n) (k := 2)
    rw [decide_eq_true hw.2] at e2
    exact Spec.of_run hG Tryz.func54 (ro := [5, 6, 7, 8, 9]) (m := 60) [.eq 21 (Lw.eqB e1), .eq 41 (Lw.eqB e2)] (by kernel_rfl)
  | .two a i l r, lo, hi, hw, hle, hlt => by
    unfold proveT
    by_cases b1 : 0 ≤ a
    case neg =>
      rw [if_neg (fun g => b1 g.1)]
      have e1 : decide (a < 0) = true := decide_eq_true (by omega)
      exact Spec.of_run hG Tryz.func54 (ro := [5, 6, 7, 8, 9]) (m := 60) [.eq 45 (Lw.eqB e1)] (by kernel_rfl)
    have e1 : decide (a < 0) = false := decide_eq_false (by omega)
    by_cases b2 : a ≤ 3
    case neg =>
      rw [if_neg (fun g => b2 g.2.1)]
      have e2 : decide (a ≥ 4) = true := decide_eq_true (by omega)
      exact Spec.of_run hG Tryz.func54 (ro := [5, 6, 7, 8, 9]) (m := 60) [.eq 45 (Lw.eqB e1), .eq 50 (Lw.eqB e2)] (by kernel_rfl)
    have e2 : decide (a ≥ 4) = false := decide_eq_false (by omega)
    by_cases b3 : (lo.get a.toNat : Int) ≤ i
    case neg =>
      rw [if_neg (fun g => b3 g.2.2.1)]
      have e3 : decide (i < Int.ofNat (lo.get a.toNat)) = true := decide_eq_true (by simp only [Int.ofNat_eq_natCast]; omega)
      obtain ⟨j, rfl⟩ : ∃ j : Nat, a = Int.ofNat j := ⟨a.toNat, by simp only [Int.ofNat_eq_natCast]; omega⟩
      have hj : j < 4 := by simp only [Int.ofNat_eq_natCast] at b2; omega
      clear b1 b2 b3
      rcases get_cases hj with rfl | rfl | rfl | rfl <;> exact Spec.of_run hG Tryz.func54 (ro := [5, 6, 7, 8, 9]) (m := 60) [.eq 45 (Lw.eqB e1), .eq 50 (Lw.eqB e2), .eq 59 (Lw.eqB e3)] (by kernel_rfl)
    have e3 : decide (i < Int.ofNat (lo.get a.toNat)) = false := decide_eq_false (by simp only [Int.ofNat_eq_natCast]; omega)
    by_cases b4 : i < (hi.get a.toNat : Int)
    case neg =>
      rw [if_neg (fun g => b4 g.2.2.2)]
      have e4 : decide (i ≥ Int.ofNat (hi.get a.toNat)) = true := decide_eq_true (by simp only [Int.ofNat_eq_natCast]; omega)
      obtain ⟨j, rfl⟩ : ∃ j : Nat, a = Int.ofNat j := ⟨a.toNat, by simp only [Int.ofNat_eq_natCast]; omega⟩
      have hj : j < 4 := by simp only [Int.ofNat_eq_natCast] at b2; omega
      clear b1 b2 b3 b4
      rcases get_cases hj with rfl | rfl | rfl | rfl <;> exact Spec.of_run hG Tryz.func54 (ro := [5, 6, 7, 8, 9]) (m := 60) [.eq 45 (Lw.eqB e1), .eq 50 (Lw.eqB e2), .eq 59 (Lw.eqB e3), .eq 68 (Lw.eqB e4)] (by kernel_rfl)
    have e4 : decide (i ≥ Int.ofNat (hi.get a.toNat)) = false := decide_eq_false (by simp only [Int.ofNat_eq_natCast]; omega)
    rw [if_pos ⟨b1, b2, b3, b4⟩]
    obtain ⟨j, rfl⟩ : ∃ j : Nat, a = Int.ofNat j := ⟨a.toNat, by simp only [Int.ofNat_eq_natCast]; omega⟩
    have hj : j < 4 := by simp only [Int.ofNat_eq_natCast] at b2; omega
    have ej : (Int.ofNat j).toNat = j := rfl
    rw [ej] at b3 b4 e3 e4 ⊢
    obtain ⟨v, rfl⟩ : ∃ v : Nat, i = Int.ofNat v := ⟨i.toNat, by simp only [Int.ofNat_eq_natCast]; omega⟩
    have ev : (Int.ofNat v).toNat = v := rfl
    rw [ev]
    have v1 : lo.get j ≤ v := by simp only [Int.ofNat_eq_natCast] at b3; omega
    have v2 : v < hi.get j := by simp only [Int.ofNat_eq_natCast] at b4; omega
    have v3 : v < 4 := by
      obtain ⟨z0, z1, z2, z3⟩ := Cat.size4 h
      obtain ⟨u0, u1, u2, u3⟩ := hlt
      rcases get_cases hj with rfl | rfl | rfl | rfl <;> simp [Ix.get] at v2 <;> omega
    obtain ⟨k1, k2, -, -⟩ := set_le hj hle v1 v2
    have p1 := PProves hG h sc (t := l) hw.1 k1 (Ix.lt_of_le (set_le_hi hj v2) hlt)
    have p2 := PProves hG h sc (t := r) hw.2 k2 hlt
    generalize proveT y.low cost (lo.set j (v + 1)) hi r = pr at p2
    have sv := eqS (nat_succ' (i := v) (n := 9) (by omega) (by omega))
    clear b1 b2 b3 b4 k1 k2 v1 v2
    cases hp : proveT y.low cost lo (hi.set j v) l with
    | false =>
      rw [hp] at p1
      rcases get_cases hj with rfl | rfl | rfl | rfl <;> exact Spec.of_run hG Tryz.func54 (ro := [5, 6, 7, 8, 9]) (m := 60) [.eq 45 (Lw.eqB e1), .eq 50 (Lw.eqB e2), .eq 59 (Lw.eqB e3), .eq 68 (Lw.eqB e4), .eq 80 sv, .call p1] (by kernel_rfl)
    | true =>
      rw [hp] at p1
      rcases get_cases hj with rfl | rfl | rfl | rfl <;> exact Spec.of_run hG Tryz.func54 (ro := [5, 6, 7, 8, 9]) (m := 60) [.eq 45 (Lw.eqB e1), .eq 50 (Lw.eqB e2), .eq 59 (Lw.eqB e3), .eq 68 (Lw.eqB e4), .eq 80 sv, .call p1, .call p2] (by kernel_rfl)
theorem RProves (hG : Steady G) {y : Cat} (h : y.fine) {cost : Rat} (sc : SzQ 3500 cost) : ∀ {t : Bt} {lo hi : Ix}, t.wf → lo.le hi → hi.lt y.size →
    Spec Tryz.prog G 55 [y.raw.dat, lo.dat, hi.dat, F cost, Bt.dat t] (bool (proveT y.low cost lo hi t))
  | .leaf a i, lo, hi, _, hle, hlt => by
    have kb := KB_eq
    have bd := RLower49 (G := G) hG h hle hlt
    have cm := RFCmp_spec (G := G) hG (low_sz h hle hlt).isQ sc.isQ (by omega)
    show Spec _ _ _ _ (bool (decide (cost ≤ y.low lo hi)))
    generalize y.low lo hi = q at bd cm
    exact Spec.of_run hG Tryz.func55 (ro := [5, 6, 7, 8, 9]) (m := 60) [.call bd, .call cm, .eq 23 (Lw.eqB (cmp_ge_dec q cost))] (by kernel_rfl)
  | .odd a i n, lo, hi, hw, hle, hlt => by
    have e1 := eq_k (n := n) (k := 0)
    rw [decide_eq_false hw.1] at e1
    have e2 := ne_k (n := n) (k := 2)
    rw [decide_eq_true hw.2] at e2
    exact Spec.of_run hG Tryz.func55 (ro := [5, 6, 7, 8, 9]) (m := 60) [.eq 16 (Lw.eqB e1), .eq 27 (Lw.eqB e2)] (by kernel_rfl)
  | .two a i l r, lo, hi, hw, hle, hlt => by
    unfold proveT
    by_cases b1 : 0 ≤ a
    case neg =>
      rw [if_neg (fun g => b1 g.1)]
      have e1 : decide (a < 0) = true := decide_eq_true (by omega)
      exact Spec.of_run hG Tryz.func55 (ro := [5, 6, 7, 8, 9]) (m := 60) [.eq 31 (Lw.eqB e1)] (by kernel_rfl)
    have e1 : decide (a < 0) = false := decide_eq_false (by omega)
    by_cases b2 : a ≤ 3
    case neg =>
      rw [if_neg (fun g => b2 g.2.1)]
      have e2 : decide (a > 3) = true := decide_eq_true (by omega)
      exact Spec.of_run hG Tryz.func55 (ro := [5, 6, 7, 8, 9]) (m := 60) [.eq 31 (Lw.eqB e1), .eq 36 (Lw.eqB e2)] (by kernel_rfl)
    have e2 : decide (a > 3) = false := decide_eq_false (by omega)
    by_cases b3 : (lo.get a.toNat : Int) ≤ i
    case neg =>
      rw [if_neg (fun g => b3 g.2.2.1)]
      have e3 : decide (i < Int.ofNat (lo.get a.toNat)) = true := decide_eq_true (by simp only [Int.ofNat_eq_natCast]; omega)
      obtain ⟨j, rfl⟩ : ∃ j : Nat, a = Int.ofNat j := ⟨a.toNat, by simp only [Int.ofNat_eq_natCast]; omega⟩
      have hj : j < 4 := by simp only [Int.ofNat_eq_natCast] at b2; omega
      clear b1 b2 b3
      rcases get_cases hj with rfl | rfl | rfl | rfl <;> exact Spec.of_run hG Tryz.func55 (ro := [5, 6, 7, 8, 9]) (m := 60) [.eq 31 (Lw.eqB e1), .eq 36 (Lw.eqB e2), .eq 45 (Lw.eqB e3)] (by kernel_rfl)
    have e3 : decide (i < Int.ofNat (lo.get a.toNat)) = false := decide_eq_false (by simp only [Int.ofNat_eq_natCast]; omega)
    by_cases b4 : i < (hi.get a.toNat : Int)
    case neg =>
      rw [if_neg (fun g => b4 g.2.2.2)]
      have e4 : decide (i ≥ Int.ofNat (hi.get a.toNat)) = true := decide_eq_true (by simp only [Int.ofNat_eq_natCast]; omega)
      obtain ⟨j, rfl⟩ : ∃ j : Nat, a = Int.ofNat j := ⟨a.toNat, by simp only [Int.ofNat_eq_natCast]; omega⟩
      have hj : j < 4 := by simp only [Int.ofNat_eq_natCast] at b2; omega
      clear b1 b2 b3 b4
      rcases get_cases hj with rfl | rfl | rfl | rfl <;> exact Spec.of_run hG Tryz.func55 (ro := [5, 6, 7, 8, 9]) (m := 60) [.eq 31 (Lw.eqB e1), .eq 36 (Lw.eqB e2), .eq 45 (Lw.eqB e3), .eq 54 (Lw.eqB e4)] (by kernel_rfl)
    have e4 : decide (i ≥ Int.ofNat (hi.get a.toNat)) = false := decide_eq_false (by simp only [Int.ofNat_eq_natCast]; omega)
    rw [if_pos ⟨b1, b2, b3, b4⟩]
    obtain ⟨j, rfl⟩ : ∃ j : Nat, a = Int.ofNat j := ⟨a.toNat, by simp only [Int.ofNat_eq_natCast]; omega⟩
    have hj : j < 4 := by simp only [Int.ofNat_eq_natCast] at b2; omega
    have ej : (Int.ofNat j).toNat = j := rfl
    rw [ej] at b3 b4 e3 e4 ⊢
    obtain ⟨v, rfl⟩ : ∃ v : Nat, i = Int.ofNat v := ⟨i.toNat, by simp only [Int.ofNat_eq_natCast]; omega⟩
    have ev : (Int.ofNat v).toNat = v := rfl
    rw [ev]
    have v1 : lo.get j ≤ v := by simp only [Int.ofNat_eq_natCast] at b3; omega
    have v2 : v < hi.get j := by simp only [Int.ofNat_eq_natCast] at b4; omega
    have v3 : v < 4 := by
      obtain ⟨z0, z1, z2, z3⟩ := Cat.size4 h
      obtain ⟨u0, u1, u2, u3⟩ := hlt
      rcases get_cases hj with rfl | rfl | rfl | rfl <;> simp [Ix.get] at v2 <;> omega
    obtain ⟨k1, k2, -, -⟩ := set_le hj hle v1 v2
    have p1 := RProves hG h sc (t := l) hw.1 k1 (Ix.lt_of_le (set_le_hi hj v2) hlt)
    have p2 := RProves hG h sc (t := r) hw.2 k2 hlt
    generalize proveT y.low cost (lo.set j (v + 1)) hi r = pr at p2
    have sv := eqS (nat_succ' (i := v) (n := 9) (by omega) (by omega))
    clear b1 b2 b3 b4 k1 k2 v1 v2
    cases hp : proveT y.low cost lo (hi.set j v) l with
    | false =>
      rw [hp] at p1
      rcases get_cases hj with rfl | rfl | rfl | rfl <;> exact Spec.of_run hG Tryz.func55 (ro := [5, 6, 7, 8, 9]) (m := 60) [.eq 31 (Lw.eqB e1), .eq 36 (Lw.eqB e2), .eq 45 (Lw.eqB e3), .eq 54 (Lw.eqB e4), .eq 66 sv, .call p1] (by kernel_rfl)
    | true =>
      rw [hp] at p1
      rcases get_cases hj with rfl | rfl | rfl | rfl <;> exact Spec.of_run hG Tryz.func55 (ro := [5, 6, 7, 8, 9]) (m := 60) [.eq 31 (Lw.eqB e1), .eq 36 (Lw.eqB e2), .eq 45 (Lw.eqB e3), .eq 54 (Lw.eqB e4), .eq 66 sv, .call p1, .call p2] (by kernel_rfl)

/-! ### the reference's best choice -/
def bsK (y : Cat) (k : Nat) : Bool × List D := match k with
  | 0 => (false, Ix.zero.cells ++ zeroF)
  | k + 1 => (true, chC (bestN y.size y.f k))
def L0 (y : Cat) (g : Nat) (s : Bool × List D) : St :=
  lay 61 [(1, .rptr y.raw.cells), (2, .ptr 0 0), (3, .ptr 1 0), (4, bool s.1), (14, nat (y.g.map rawOf).length), (15, nat g)] [(0, Ix.zero.cells ++ zeroF), (1, s.2)]
def L1 (y : Cat) (g a : Nat) (s : Bool × List D) : St :=
  lay 61 [(1, .rptr y.raw.cells), (2, .ptr 0 0), (3, .ptr 1 0), (4, bool s.1), (14, nat (y.g.map rawOf).length), (15, nat g), (5, nat g), (20, nat (y.a.map rawOf).length), (21, nat a)] [(0, Ix.zero.cells ++ zeroF), (1, s.2)]
def L2 (y : Cat) (g a b : Nat) (s : Bool × List D) : St :=
  lay 61 [(1, .rptr y.raw.cells), (2, .ptr 0 0), (3, .ptr 1 0), (4, bool s.1), (14, nat (y.g.map rawOf).length), (15, nat g), (5, nat g), (20, nat (y.a.map rawOf).length), (21, nat a), (6, nat a), (26, nat (y.b.map rawOf).length), (27, nat b)] [(0, Ix.zero.cells ++ zeroF), (1, s.2)]
def L3 (y : Cat) (g a b r : Nat) (s : Bool × List D) : St :=
  lay 61 [(1, .rptr y.raw.cells), (2, .ptr 0 0), (3, .ptr 1 0), (4, bool s.1), (14, nat (y.g.map rawOf).length), (15, nat g), (5, nat g), (20, nat (y.a.map rawOf).length), (21, nat a), (6, nat a), (26, nat (y.b.map rawOf).length), (27, nat b), (7, nat b), (32, nat (y.c.map rawOf).length), (33, nat r)] [(0, Ix.zero.cells ++ zeroF), (1, s.2)]
theorem ltR {l : List Rat} {i : Nat} (h : i < l.length) : decide (Int.ofNat i < Int.ofNat (l.map rawOf).length) = true := lt_true (by rw [List.length_map]; exact h)
theorem ltRF (l : List Rat) : decide (Int.ofNat l.length < Int.ofNat (l.map rawOf).length) = false := lt_false (by rw [List.length_map]; exact Nat.le_refl _)
theorem rb_step (hG : Steady G) {y : Cat} (h : y.fine) {x : Ix} (hx : x.lt y.size) :
    Goes Tryz.prog G 0 (loopOf Tryz.f25 3) (L3 y x.g x.a x.b x.c (bsK y (Ix.num y.size x))) .normal (L3 y x.g x.a x.b (x.c + 1) (bsK y (Ix.num y.size x + 1))) := by
  have kb := KB_eq
  have co := RCost49 (G := G) hG h hx
  have lt := ltR (l := y.c) hx.2.2.2
  have sz := Cat.size4 h
  have hc : x.c < y.size.c := hx.2.2.2
  have nx := eqS (nat_succ' (i := x.c) (n := 9) (by omega) (by omega))
  have sq := f_sz h hx
  have hk := num_lt hx
  have ed := dig_num hx
  cases hn : Ix.num y.size x with
  | zero =>
    rw [hn] at ed
    show Goes _ _ _ _ (L3 y x.g x.a x.b x.c (false, Ix.zero.cells ++ zeroF)) _ (L3 y x.g x.a x.b (x.c + 1) (true, chC (Ix.dig y.size 0, y.f (Ix.dig y.size 0))))
    rw [ed]
    show Goes _ _ _ _ _ _ (L3 y x.g x.a x.b (x.c + 1) (true, chC (x, y.low x x)))
    generalize y.low x x = q at co
    exact Goes.of_run hG (ro := []) (m := 60) (lay_len ..) [.eq 34 (Lw.eqB lt), .call co, .eq 56 nx] (by kernel_rfl)
  | succ k =>
    rw [hn] at ed
    have bz := best_sz h (show k < Ix.all y.size by omega)
    show Goes _ _ _ _ (L3 y x.g x.a x.b x.c (true, chC (bestN y.size y.f k))) _ (L3 y x.g x.a x.b (x.c + 1) (true, chC (if y.f (Ix.dig y.size (k + 1)) < (bestN y.size y.f k).2 then (Ix.dig y.size (k + 1), y.f (Ix.dig y.size (k + 1))) else bestN y.size y.f k)))
    rw [ed]
    generalize bestN y.size y.f k = b at bz
    obtain ⟨bi, bq⟩ := b
    have cm : Spec Tryz.prog G 40 [F (y.low x x), F bq] (int (cmpQ (y.low x x) bq)) := RFCmp_spec (G := G) hG sq.isQ bz.isQ (by omega)
    show Goes _ _ _ _ _ _ (L3 y x.g x.a x.b (x.c + 1) (true, chC (if y.low x x < bq then (x, y.low x x) else (bi, bq))))
    generalize y.low x x = q at co cm
    by_cases hq : q < bq
    · rw [if_pos hq]
      exact Goes.of_run hG (ro := []) (m := 60) (lay_len ..) [.eq 34 (Lw.eqB lt), .call co, .call cm, .eq 51 (Lw.eqB (cmp_ltT hq)), .eq 56 nx] (by kernel_rfl)
    · rw [if_neg hq]
      exact Goes.of_run hG (ro := []) (m := 60) (lay_len ..) [.eq 34 (Lw.eqB lt), .call co, .call cm, .eq 51 (Lw.eqB (cmp_ltF hq)), .eq 56 nx] (by kernel_rfl)
theorem rb_2 (hG : Steady G) {y : Cat} (h : y.fine) {g a b : Nat} (hg : g < y.g.length) (ha : a < y.a.length) (hb : b < y.b.length) :
    Goes Tryz.prog G 0 (loopOf Tryz.f25 2) (L2 y g a b (bsK y (((g * y.a.length + a) * y.b.length + b) * y.c.length))) .normal (L2 y g a (b + 1) (bsK y (((g * y.a.length + a) * y.b.length + (b + 1)) * y.c.length))) := by
  have sz := Cat.size4 h
  have hb4 : y.b.length ≤ 4 := sz.2.2.1
  have lt := ltR (l := y.b) hb
  have nx := eqS (nat_succ' (i := b) (n := 9) (by omega) (by omega))
  have e : ((g * y.a.length + a) * y.b.length + (b + 1)) * y.c.length = ((g * y.a.length + a) * y.b.length + b) * y.c.length + y.c.length := by
    rw [← Nat.add_assoc, Nat.succ_mul]
  rw [e]
  have lp := Abs.count (P := Tryz.prog) (Good := G) (gb := 0) (body := loopOf Tryz.f25 3) (e := .exit 6) (s' := L3 y g a b y.c.length (bsK y (((g * y.a.length + a) * y.b.length + b) * y.c.length + y.c.length)))
    (fun r => L3 y g a b r (bsK y (((g * y.a.length + a) * y.b.length + b) * y.c.length + r))) y.c.length (fun i => lay_len ..) (by intro h; cases h)
    (fun r hr => rb_step hG h (x := ⟨g, a, b, r⟩) ⟨hg, ha, hb, hr⟩)
    (by generalize bsK y _ = s; exact Goes.of_run hG (ro := []) (m := 60) (lay_len ..) [.eq 34 (Lw.eqB (ltRF y.c))] (by kernel_rfl))
  simp only [Nat.add_zero] at lp
  generalize bsK y (((g * y.a.length + a) * y.b.length + b) * y.c.length + y.c.length) = s1 at lp
  generalize bsK y (((g * y.a.length + a) * y.b.length + b) * y.c.length) = s0 at lp
  exact Goes.of_run hG (ro := []) (m := 60) (lay_len ..) [.eq 28 (Lw.eqB lt), .code lp, .eq 57 nx] (by kernel_rfl)
theorem rb_1 (hG : Steady G) {y : Cat} (h : y.fine) {g a : Nat} (hg : g < y.g.length) (ha : a < y.a.length) :
    Goes Tryz.prog G 0 (loopOf Tryz.f25 1) (L1 y g a (bsK y ((g * y.a.length + a) * y.b.length * y.c.length))) .normal (L1 y g (a + 1) (bsK y ((g * y.a.length + (a + 1)) * y.b.length * y.c.length))) := by
  have sz := Cat.size4 h
  have ha4 : y.a.length ≤ 4 := sz.2.1
  have lt := ltR (l := y.a) ha
  have nx := eqS (nat_succ' (i := a) (n := 9) (by omega) (by omega))
  have e : (g * y.a.length + (a + 1)) * y.b.length * y.c.length = ((g * y.a.length + a) * y.b.length + y.b.length) * y.c.length := by
    rw [← Nat.add_assoc, Nat.succ_mul]
  rw [e]
  have lp := Abs.count (P := Tryz.prog) (Good := G) (gb := 0) (body := loopOf Tryz.f25 2) (e := .exit 4) (s' := L2 y g a y.b.length (bsK y (((g * y.a.length + a) * y.b.length + y.b.length) * y.c.length)))
    (fun b => L2 y g a b (bsK y (((g * y.a.length + a) * y.b.length + b) * y.c.length))) y.b.length (fun i => lay_len ..) (by intro h; cases h)
    (fun b hb => rb_2 hG h hg ha hb)
    (by generalize bsK y _ = s; exact Goes.of_run hG (ro := []) (m := 60) (lay_len ..) [.eq 28 (Lw.eqB (ltRF y.b))] (by kernel_rfl))
  simp only [Nat.add_zero] at lp
  generalize bsK y (((g * y.a.length + a) * y.b.length + y.b.length) * y.c.length) = s1 at lp
  generalize bsK y ((g * y.a.length + a) * y.b.length * y.c.length) = s0 at lp
  exact Goes.of_run hG (ro := []) (m := 60) (lay_len ..) [.eq 22 (Lw.eqB lt), .code lp, .eq 58 nx] (by kernel_rfl)
theorem rb_0 (hG : Steady G) {y : Cat} (h : y.fine) {g : Nat} (hg : g < y.g.length) :
    Goes Tryz.prog G 0 (loopOf Tryz.f25 0) (L0 y g (bsK y (g * y.a.length * y.b.length * y.c.length))) .normal (L0 y (g + 1) (bsK y ((g + 1) * y.a.length * y.b.length * y.c.length))) := by
  have sz := Cat.size4 h
  have hg4 : y.g.length ≤ 4 := sz.1
  have lt := ltR (l := y.g) hg
  have nx := eqS (nat_succ' (i := g) (n := 9) (by omega) (by omega))
  have e : (g + 1) * y.a.length * y.b.length * y.c.length = (g * y.a.length + y.a.length) * y.b.length * y.c.length := by rw [Nat.succ_mul]
  rw [e]
  have lp := Abs.count (P := Tryz.prog) (Good := G) (gb := 0) (body := loopOf Tryz.f25 1) (e := .exit 2) (s' := L1 y g y.a.length (bsK y ((g * y.a.length + y.a.length) * y.b.length * y.c.length)))
    (fun a => L1 y g a (bsK y ((g * y.a.length + a) * y.b.length * y.c.length))) y.a.length (fun i => lay_len ..) (by intro h; cases h)
    (fun a ha => rb_1 hG h hg ha)
    (by generalize bsK y _ = s; exact Goes.of_run hG (ro := []) (m := 60) (lay_len ..) [.eq 22 (Lw.eqB (ltRF y.a))] (by kernel_rfl))
  simp only [Nat.add_zero] at lp
  generalize bsK y ((g * y.a.length + y.a.length) * y.b.length * y.c.length) = s1 at lp
  generalize bsK y (g * y.a.length * y.b.length * y.c.length) = s0 at lp
  exact Goes.of_run hG (ro := []) (m := 60) (lay_len ..) [.eq 16 (Lw.eqB lt), .code lp, .eq 59 nx] (by kernel_rfl)
theorem RBest (hG : Steady G) {y : Cat} (h : y.fine) : Spec Tryz.prog G 25 [y.raw.dat] (chD y.best) := by
  have lp := Abs.count (P := Tryz.prog) (Good := G) (gb := 0) (body := loopOf Tryz.f25 0) (e := .exit 0) (s' := L0 y y.g.length (bsK y (y.g.length * y.a.length * y.b.length * y.c.length)))
    (fun g => L0 y g (bsK y (g * y.a.length * y.b.length * y.c.length))) y.g.length (fun i => lay_len ..) (by intro h; cases h)
    (fun g hg => rb_0 hG h hg)
    (by generalize bsK y _ = s; exact Goes.of_run hG (ro := []) (m := 60) (lay_len ..) [.eq 16 (Lw.eqB (ltRF y.g))] (by kernel_rfl))
  simp only [Nat.zero_mul] at lp
  have hp := all_pos h
  obtain ⟨k, hk⟩ : ∃ k, Ix.all y.size = k + 1 := ⟨Ix.all y.size - 1, by omega⟩
  have e : bsK y (y.g.length * y.a.length * y.b.length * y.c.length) = (true, chC y.best) := by
    unfold Cat.best bestOf
    rw [show y.g.length * y.a.length * y.b.length * y.c.length = Ix.all y.size from rfl, hk]
    rfl
  rw [e] at lp
  generalize y.best = b at lp
  have lp : Abs Tryz.prog G 61 0 (.loop (loopOf Tryz.f25 0)) (L0 y 0 (false, Ix.zero.cells ++ zeroF)) (.exit 0) (L0 y y.g.length (true, chC b)) := lp
  exact Spec.of_run hG Tryz.func25 (ro := [1]) (m := 60) [.code lp] (by kernel_rfl)
end Lw
