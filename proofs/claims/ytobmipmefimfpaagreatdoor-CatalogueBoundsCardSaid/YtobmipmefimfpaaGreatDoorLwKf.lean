/- Boxes checked, costs, the best choice: program and reference, run. No condition. -/
import Derived.Test.YtobmipmefimfpaaGreatDoorLwKe
namespace Lw
open Go Go.RowKit Go.Proofs

variable {G : World → Prop}

/-! ### four numbers -/
structure I4 where
  g : Int
  a : Int
  b : Int
  c : Int
def I4.cells (x : I4) : List D := [int x.g, int x.a, int x.b, int x.c]
def I4.dat (x : I4) : D := .agg x.cells
def I4.get (x : I4) (j : Nat) : Int := if j = 0 then x.g else if j = 1 then x.a else if j = 2 then x.b else x.c
def Ix.i4 (x : Ix) : I4 := ⟨Int.ofNat x.g, Int.ofNat x.a, Int.ofNat x.b, Int.ofNat x.c⟩
theorem Ix.i4_dat (x : Ix) : x.i4.dat = x.dat := rfl
def insJ (x : RCt) (lo hi : I4) (j : Nat) : Prop := 0 ≤ lo.get j ∧ lo.get j ≤ hi.get j ∧ hi.get j < (x.list j).length
instance (x : RCt) (lo hi : I4) (j : Nat) : Decidable (insJ x lo hi j) := by unfold insJ; infer_instance
def inside (x : RCt) (lo hi : I4) : Prop := ∀ j, j < 4 → insJ x lo hi j
noncomputable instance (x : RCt) (lo hi : I4) : Decidable (inside x lo hi) := Classical.propDecidable _
theorem inside_ix {y : Cat} {lo hi : I4} (h : inside y.raw lo hi) : ∃ l m : Ix, lo = l.i4 ∧ hi = m.i4 ∧ l.le m ∧ m.lt y.size := by
  obtain ⟨a0, b0, c0⟩ := h 0 (by omega)
  obtain ⟨a1, b1, c1⟩ := h 1 (by omega)
  obtain ⟨a2, b2, c2⟩ := h 2 (by omega)
  obtain ⟨a3, b3, c3⟩ := h 3 (by omega)
  rw [Cat.raw_list, List.length_map] at c0 c1 c2 c3
  obtain ⟨lg, la, lb, lc⟩ := lo
  obtain ⟨mg, ma, mb, mc⟩ := hi
  simp only [I4.get, Cat.list] at a0 b0 c0 a1 b1 c1 a2 b2 c2 a3 b3 c3
  simp at a0 b0 c0 a1 b1 c1 a2 b2 c2 a3 b3 c3
  refine ⟨⟨lg.toNat, la.toNat, lb.toNat, lc.toNat⟩, ⟨mg.toNat, ma.toNat, mb.toNat, mc.toNat⟩, ?_, ?_, ⟨?_, ?_, ?_, ?_⟩, ?_, ?_, ?_, ?_⟩
  · unfold Ix.i4; simp only [I4.mk.injEq, Int.ofNat_eq_natCast]; omega
  · unfold Ix.i4; simp only [I4.mk.injEq, Int.ofNat_eq_natCast]; omega
  all_goals simp only [Cat.size]; omega
theorem ix_inside {y : Cat} {l m : Ix} (h1 : l.le m) (h2 : m.lt y.size) : inside y.raw l.i4 m.i4 := by
  intro j hj
  unfold insJ
  rw [Cat.raw_list, List.length_map]
  obtain ⟨a0, a1, a2, a3⟩ := h1
  obtain ⟨b0, b1, b2, b3⟩ := h2
  simp only [Cat.size] at b0 b1 b2 b3
  rcases four_cases hj with rfl | rfl | rfl | rfl <;> simp [I4.get, Ix.i4, Cat.list] <;> omega

/-! ### the reference's test of a box -/
def rinInv (x : RCt) (lo hi : I4) (j : Nat) : St := lay 37 [(4, .rptr lo.cells), (5, .rptr hi.cells), (10, x.lists), (11, nat j)] []
theorem rin_round (hG : Steady G) {x : RCt} {lo hi : I4} {j : Nat} (hj : j < 4) :
    (insJ x lo hi j → Goes Tryz.prog G 0 (loopOf Tryz.f16 0) (rinInv x lo hi j) .normal (rinInv x lo hi (j + 1))) ∧
    (¬ insJ x lo hi j → Goes Tryz.prog G 0 (loopOf Tryz.f16 0) (rinInv x lo hi j) .ret (lay 37 [(6, bool false)] [])) := by
  unfold insJ
  by_cases h1 : 0 ≤ lo.get j
  case neg =>
    refine ⟨fun h => absurd h.1 h1, fun _ => ?_⟩
    have e1 : decide (lo.get j < 0) = true := decide_eq_true (by omega)
    rcases four_cases hj with rfl | rfl | rfl | rfl <;> exact Goes.of_run hG (ro := []) (m := 60) (lay_len ..) [.eq 18 (Lw.eqB e1)] (by kernel_rfl)
  have e1 : decide (lo.get j < 0) = false := decide_eq_false (by omega)
  by_cases h2 : lo.get j ≤ hi.get j
  case neg =>
    refine ⟨fun h => absurd h.2.1 h2, fun _ => ?_⟩
    have e2 : decide (lo.get j > hi.get j) = true := decide_eq_true (by omega)
    rcases four_cases hj with rfl | rfl | rfl | rfl <;> exact Goes.of_run hG (ro := []) (m := 60) (lay_len ..) [.eq 18 (Lw.eqB e1), .eq 26 (Lw.eqB e2)] (by kernel_rfl)
  have e2 : decide (lo.get j > hi.get j) = false := decide_eq_false (by omega)
  by_cases h3 : hi.get j < (x.list j).length
  · refine ⟨fun _ => ?_, fun h => absurd ⟨h1, h2, h3⟩ h⟩
    have e3 : decide (hi.get j ≥ Int.ofNat (x.list j).length) = false := decide_eq_false (by simp only [Int.ofNat_eq_natCast]; omega)
    rcases four_cases hj with rfl | rfl | rfl | rfl <;> exact Goes.of_run hG (ro := []) (m := 60) (lay_len ..) [.eq 18 (Lw.eqB e1), .eq 26 (Lw.eqB e2), .eq 34 (Lw.eqB e3)] (by kernel_rfl)
  · refine ⟨fun h => absurd h.2.2 h3, fun _ => ?_⟩
    have e3 : decide (hi.get j ≥ Int.ofNat (x.list j).length) = true := decide_eq_true (by simp only [Int.ofNat_eq_natCast]; omega)
    rcases four_cases hj with rfl | rfl | rfl | rfl <;> exact Goes.of_run hG (ro := []) (m := 60) (lay_len ..) [.eq 18 (Lw.eqB e1), .eq 26 (Lw.eqB e2), .eq 34 (Lw.eqB e3)] (by kernel_rfl)
theorem RInside (hG : Steady G) (x : RCt) (lo hi : I4) : Spec Tryz.prog G 16 [x.dat, lo.dat, hi.dat] (bool (decide (inside x lo hi))) := by
  rcases firstN_cases (fun j => decide (insJ x lo hi j)) 4 with ⟨-, h⟩ | ⟨j, -, h1, h2, h3⟩
  · rw [decide_eq_true (show inside x lo hi from fun j hj => of_decide_eq_true (h j hj))]
    have lp := Abs.count (P := Tryz.prog) (Good := G) (gb := 0) (body := loopOf Tryz.f16 0) (e := .exit 0) (s' := rinInv x lo hi 4) (fun i => rinInv x lo hi i) 4 (fun i => lay_len ..) (by intro h; cases h)
      (fun j hj => (rin_round hG hj).1 (of_decide_eq_true (h j hj))) (Goes.of_run hG (ro := []) (m := 60) (lay_len ..) [] (by kernel_rfl))
    exact Spec.of_run hG Tryz.func16 (ro := [3, 4, 5]) (m := 60) [.call (CLists hG x), .code lp] (by kernel_rfl)
  · rw [decide_eq_false (fun g : inside x lo hi => (of_decide_eq_false h2) (g j h1))]
    have lp := Abs.count (P := Tryz.prog) (Good := G) (gb := 0) (body := loopOf Tryz.f16 0) (e := .ret) (s' := lay 37 [(6, bool false)] []) (fun i => rinInv x lo hi i) j (fun i => lay_len ..) (by intro h; cases h)
      (fun q hq => (rin_round hG (by omega)).1 (of_decide_eq_true (h3 q hq))) ((rin_round hG h1).2 (of_decide_eq_false h2))
    exact Spec.of_run hG Tryz.func16 (ro := [3, 4, 5]) (m := 60) [.call (CLists hG x), .code lp] (by kernel_rfl)

/-! ### the program's bound -/
def pinInv (x : RCt) (lo hi : I4) (j : Nat) : St := lay 53 [(3, .rptr x.cells), (4, .rptr lo.cells), (5, .rptr hi.cells), (6, .ptr 0 0), (18, x.lists), (19, nat j)] [(0, zeroF)]
theorem pin_round (hG : Steady G) {x : RCt} {lo hi : I4} {j : Nat} (hj : j < 4) :
    (insJ x lo hi j → Goes Tryz.prog G 0 (loopOf Tryz.f19 0) (pinInv x lo hi j) .normal (pinInv x lo hi (j + 1))) ∧
    (¬ insJ x lo hi j → Goes Tryz.prog G 0 (loopOf Tryz.f19 0) (pinInv x lo hi j) .ret (lay 53 [(6, .ptr 0 0), (7, errno 9)] [(0, zeroF)])) := by
  unfold insJ
  by_cases h1 : 0 ≤ lo.get j
  case neg =>
    refine ⟨fun h => absurd h.1 h1, fun _ => ?_⟩
    have e1 : decide (lo.get j < 0) = true := decide_eq_true (by omega)
    rcases four_cases hj with rfl | rfl | rfl | rfl <;> exact Goes.of_run hG (ro := []) (m := 60) (lay_len ..) [.eq 26 (Lw.eqB e1)] (by kernel_rfl)
  have e1 : decide (lo.get j < 0) = false := decide_eq_false (by omega)
  by_cases h2 : lo.get j ≤ hi.get j
  case neg =>
    refine ⟨fun h => absurd h.2.1 h2, fun _ => ?_⟩
    have e2 : decide (lo.get j > hi.get j) = true := decide_eq_true (by omega)
    rcases four_cases hj with rfl | rfl | rfl | rfl <;> exact Goes.of_run hG (ro := []) (m := 60) (lay_len ..) [.eq 26 (Lw.eqB e1), .eq 34 (Lw.eqB e2)] (by kernel_rfl)
  have e2 : decide (lo.get j > hi.get j) = false := decide_eq_false (by omega)
  by_cases h3 : hi.get j < (x.list j).length
  · refine ⟨fun _ => ?_, fun h => absurd ⟨h1, h2, h3⟩ h⟩
    have e3 : decide (hi.get j ≥ Int.ofNat (x.list j).length) = false := decide_eq_false (by simp only [Int.ofNat_eq_natCast]; omega)
    rcases four_cases hj with rfl | rfl | rfl | rfl <;> exact Goes.of_run hG (ro := []) (m := 60) (lay_len ..) [.eq 26 (Lw.eqB e1), .eq 34 (Lw.eqB e2), .eq 42 (Lw.eqB e3)] (by kernel_rfl)
  · refine ⟨fun h => absurd h.2.2 h3, fun _ => ?_⟩
    have e3 : decide (hi.get j ≥ Int.ofNat (x.list j).length) = true := decide_eq_true (by simp only [Int.ofNat_eq_natCast]; omega)
    rcases four_cases hj with rfl | rfl | rfl | rfl <;> exact Goes.of_run hG (ro := []) (m := 60) (lay_len ..) [.eq 26 (Lw.eqB e1), .eq 34 (Lw.eqB e2), .eq 42 (Lw.eqB e3)] (by kernel_rfl)
section
variable {x : RCt} (hd : x.digs) (hb : x.far) (hs : x.short)
include hd hb hs
theorem PLower_bad (hG : Steady G) (lo hi : I4) (h : x.code ≠ 0) : Spec Tryz.prog G 19 [x.dat, lo.dat, hi.dat] (.tup [F 0, errno x.code]) := by
  have ck := PCheck (G := G) hG hd hb hs
  rw [errOf_ne h] at ck
  generalize x.code = c at ck
  exact Spec.of_run hG Tryz.func19 (ro := [3, 4, 5]) (m := 60) [.call ck] (by kernel_rfl)
theorem PLower_out (hG : Steady G) (lo hi : I4) (h : x.code = 0) (h2 : ¬ inside x lo hi) : Spec Tryz.prog G 19 [x.dat, lo.dat, hi.dat] (.tup [F 0, errno 9]) := by
  have ck := PCheck (G := G) hG hd hb hs
  rw [h] at ck
  rcases firstN_cases (fun j => decide (insJ x lo hi j)) 4 with ⟨-, g⟩ | ⟨j, -, g1, g2, g3⟩
  · exact absurd (show inside x lo hi from fun j hj => of_decide_eq_true (g j hj)) h2
  · have lp := Abs.count (P := Tryz.prog) (Good := G) (gb := 0) (body := loopOf Tryz.f19 0) (e := .ret) (s' := lay 53 [(6, .ptr 0 0), (7, errno 9)] [(0, zeroF)]) (fun i => pinInv x lo hi i) j (fun i => lay_len ..) (by intro h; cases h)
      (fun q hq => (pin_round hG (by omega)).1 (of_decide_eq_true (g3 q hq))) ((pin_round hG g1).2 (of_decide_eq_false g2))
    exact Spec.of_run hG Tryz.func19 (ro := [3, 4, 5]) (m := 60) [.call ck, .call (PLists_spec hG x), .code lp] (by kernel_rfl)
theorem PCost_bad (hG : Steady G) (ix : I4) (h : x.code ≠ 0) : Spec Tryz.prog G 12 [x.dat, ix.dat] (.tup [F 0, errno x.code]) := by
  have l := PLower_bad hd hb hs (G := G) hG ix ix h
  generalize x.code = c at l
  exact Spec.of_run hG Tryz.func12 (ro := [2, 3]) (m := 60) [.call l] (by kernel_rfl)
theorem PCost_out (hG : Steady G) (ix : I4) (h : x.code = 0) (h2 : ¬ inside x ix ix) : Spec Tryz.prog G 12 [x.dat, ix.dat] (.tup [F 0, errno 9]) :=
  Spec.of_run hG Tryz.func12 (ro := [2, 3]) (m := 60) [.call (PLower_out hd hb hs hG ix ix h h2)] (by kernel_rfl)
end
/-- A catalogue whose check is passed. -/
structure Cat.good (G : World → Prop) (y : Cat) : Prop where
  fine : y.fine
  check : Spec Tryz.prog G 15 [y.raw.dat] (.lit .nilIface)
section
variable {y : Cat} (hy : y.good G)
include hy
theorem PLower_ok (hG : Steady G) {lo hi : Ix} (h1 : lo.le hi) (h2 : hi.lt y.size) : Spec Tryz.prog G 19 [y.raw.dat, lo.dat, hi.dat] (.tup [F (y.low lo hi), .lit .nilIface]) := by
  have ins := ix_inside h1 h2
  have bd := Bound49 (G := G) hG hy.fine h1 h2
  rw [← Ix.i4_dat lo, ← Ix.i4_dat hi] at bd ⊢
  generalize y.low lo hi = q at bd
  have lp := Abs.count (P := Tryz.prog) (Good := G) (gb := 0) (body := loopOf Tryz.f19 0) (e := .exit 0) (s' := pinInv y.raw lo.i4 hi.i4 4) (fun i => pinInv y.raw lo.i4 hi.i4 i) 4 (fun i => lay_len ..) (by intro h; cases h)
    (fun j hj => (pin_round hG hj).1 (ins j hj)) (Goes.of_run hG (ro := []) (m := 60) (lay_len ..) [] (by kernel_rfl))
  generalize lo.i4 = l at lp bd ⊢
  generalize hi.i4 = m at lp bd ⊢
  exact Spec.of_run hG Tryz.func19 (ro := [3, 4, 5]) (m := 60) [.call hy.check, .call (PLists_spec hG y.raw), .code lp, .call bd] (by kernel_rfl)
theorem PCost_ok (hG : Steady G) {x : Ix} (h2 : x.lt y.size) : Spec Tryz.prog G 12 [y.raw.dat, x.dat] (.tup [F (y.low x x), .lit .nilIface]) := by
  have l := PLower_ok hy (G := G) hG (lo := x) (hi := x) ⟨Nat.le_refl _, Nat.le_refl _, Nat.le_refl _, Nat.le_refl _⟩ h2
  generalize y.low x x = q at l
  exact Spec.of_run hG Tryz.func12 (ro := [2, 3]) (m := 60) [.call l] (by kernel_rfl)
end

/-! ### the greatest indices -/
def Cat.top (y : Cat) : Ix := ⟨y.g.length - 1, y.a.length - 1, y.b.length - 1, y.c.length - 1⟩
theorem pred_len {l : List Rat} (h : fineL l) : IntKind.wrap .i64 (Int.ofNat (l.map rawOf).length - 1) = Int.ofNat (l.length - 1) := by
  have h1 := h.1
  have h2 := h.2.1
  rw [List.length_map, wrapS (by simp only [Int.ofNat_eq_natCast]; omega) (by simp only [Int.ofNat_eq_natCast]; omega)]
  simp only [Int.ofNat_eq_natCast]; omega
theorem PLast (hG : Steady G) {y : Cat} (h : y.fine) : Spec Tryz.prog G 50 [y.raw.dat] y.top.dat := by
  have f0 := pred_len (h.1 0 (by omega))
  have f1 := pred_len (h.1 1 (by omega))
  have f2 := pred_len (h.1 2 (by omega))
  have f3 := pred_len (h.1 3 (by omega))
  exact Spec.of_run hG Tryz.func50 (ro := [1]) (m := 60) [.call (PLists_spec hG y.raw), .eq 15 (eqS f0), .eq 15 (eqS f1), .eq 15 (eqS f2), .eq 15 (eqS f3)] (by kernel_rfl)
theorem RAll (hG : Steady G) {y : Cat} (h : y.fine) : Spec Tryz.prog G 26 [y.raw.dat] (.tup [Ix.zero.dat, y.top.dat]) := by
  have f0 := pred_len (h.1 0 (by omega))
  have f1 := pred_len (h.1 1 (by omega))
  have f2 := pred_len (h.1 2 (by omega))
  have f3 := pred_len (h.1 3 (by omega))
  exact Spec.of_run hG Tryz.func26 (ro := [1]) (m := 60) [.call (CLists hG y.raw), .eq 15 (eqS f0), .eq 15 (eqS f1), .eq 15 (eqS f2), .eq 15 (eqS f3)] (by kernel_rfl)
theorem lt_pred {a n : Nat} : decide (Int.ofNat a < Int.ofNat (n - 1)) = decide (a + 1 < n) := by
  refine decide_eq_decide.2 ?_
  simp only [Int.ofNat_eq_natCast]; omega
/-- The next indices. -/
theorem PNext (hG : Steady G) {n x : Ix} (h : x.lt n) (hb : n.g ≤ 4 ∧ n.a ≤ 4 ∧ n.b ≤ 4 ∧ n.c ≤ 4) :
    (¬ Ix.last n x → Spec Tryz.prog G 51 [x.dat, (Ix.mk (n.g - 1) (n.a - 1) (n.b - 1) (n.c - 1)).dat] (.tup [(Ix.next n x).dat, bool true])) ∧
    (Ix.last n x → Spec Tryz.prog G 51 [x.dat, (Ix.mk (n.g - 1) (n.a - 1) (n.b - 1) (n.c - 1)).dat] (.tup [Ix.zero.dat, bool false])) := by
  obtain ⟨h0, h1, h2, h3⟩ := h
  obtain ⟨b0, b1, b2, b3⟩ := hb
  have e3 := lt_pred (a := x.c) (n := n.c)
  have e2 := lt_pred (a := x.b) (n := n.b)
  have e1 := lt_pred (a := x.a) (n := n.a)
  have e0 := lt_pred (a := x.g) (n := n.g)
  unfold Ix.last Ix.next
  by_cases c3 : x.c + 1 < n.c
  · refine ⟨fun _ => ?_, fun h => absurd c3 h.1⟩
    rw [if_pos c3]
    rw [decide_eq_true c3] at e3
    exact Spec.of_run hG Tryz.func51 (ro := [3]) (m := 60) [.eq 17 (Lw.eqB e3), .eq 21 (eqS (nat_succ' h3 (by omega)))] (by kernel_rfl)
  rw [decide_eq_false c3] at e3
  rw [if_neg c3]
  by_cases c2 : x.b + 1 < n.b
  · refine ⟨fun _ => ?_, fun h => absurd c2 h.2.1⟩
    rw [if_pos c2]
    rw [decide_eq_true c2] at e2
    exact Spec.of_run hG Tryz.func51 (ro := [3]) (m := 60) [.eq 17 (Lw.eqB e3), .eq 17 (Lw.eqB e2), .eq 21 (eqS (nat_succ' h2 (by omega)))] (by kernel_rfl)
  rw [decide_eq_false c2] at e2
  rw [if_neg c2]
  by_cases c1 : x.a + 1 < n.a
  · refine ⟨fun _ => ?_, fun h => absurd c1 h.2.2.1⟩
    rw [if_pos c1]
    rw [decide_eq_true c1] at e1
    exact Spec.of_run hG Tryz.func51 (ro := [3]) (m := 60) [.eq 17 (Lw.eqB e3), .eq 17 (Lw.eqB e2), .eq 17 (Lw.eqB e1), .eq 21 (eqS (nat_succ' h1 (by omega)))] (by kernel_rfl)
  rw [decide_eq_false c1] at e1
  rw [if_neg c1]
  by_cases c0 : x.g + 1 < n.g
  · refine ⟨fun _ => ?_, fun h => absurd c0 h.2.2.2⟩
    rw [decide_eq_true c0] at e0
    exact Spec.of_run hG Tryz.func51 (ro := [3]) (m := 60) [.eq 17 (Lw.eqB e3), .eq 17 (Lw.eqB e2), .eq 17 (Lw.eqB e1), .eq 17 (Lw.eqB e0), .eq 21 (eqS (nat_succ' h0 (by omega)))] (by kernel_rfl)
  · refine ⟨fun h => absurd ⟨c3, c2, c1, c0⟩ h, fun _ => ?_⟩
    rw [decide_eq_false c0] at e0
    exact Spec.of_run hG Tryz.func51 (ro := [3]) (m := 60) [.eq 17 (Lw.eqB e3), .eq 17 (Lw.eqB e2), .eq 17 (Lw.eqB e1), .eq 17 (Lw.eqB e0)] (by kernel_rfl)

/-! ### the best choice -/
theorem cmp_ltT {a b : Rat} (h : a < b) : decide (cmpQ a b < 0) = true := by unfold cmpQ; rw [if_pos h]; rfl
theorem cmp_ltF {a b : Rat} (h : ¬ a < b) : decide (cmpQ a b < 0) = false := by
  unfold cmpQ
  rw [if_neg h]
  split <;> rfl
/-- A choice. -/
def chC (c : Ix × Rat) : List D := c.1.cells ++ cQ c.2
def Cat.f (y : Cat) (x : Ix) : Rat := y.low x x
def bsSt (y : Cat) (more found : Bool) (out : List D) (x : Ix) : St :=
  lay 52 [(1, .rptr y.raw.cells), (2, .ptr 0 0), (5, .ptr 1 0), (6, .ptr 2 0), (7, .ptr 3 0), (8, bool found), (9, bool more)] [(0, Ix.zero.cells ++ zeroF), (1, out), (2, y.top.cells), (3, x.cells)]
theorem Cat.size4 {y : Cat} (h : y.fine) : y.size.g ≤ 4 ∧ y.size.a ≤ 4 ∧ y.size.b ≤ 4 ∧ y.size.c ≤ 4 := ⟨(h.1 0 (by omega)).2.1, (h.1 1 (by omega)).2.1, (h.1 2 (by omega)).2.1, (h.1 3 (by omega)).2.1⟩
theorem Cat.size0 {y : Cat} (h : y.fine) : Ix.zero.lt y.size := ⟨(h.1 0 (by omega)).1, (h.1 1 (by omega)).1, (h.1 2 (by omega)).1, (h.1 3 (by omega)).1⟩
theorem f_sz {y : Cat} (h : y.fine) {x : Ix} (hx : x.lt y.size) : SzQ 3500 (y.f x) := low_sz h ⟨Nat.le_refl _, Nat.le_refl _, Nat.le_refl _, Nat.le_refl _⟩ hx
theorem bs_first (hG : Steady G) {y : Cat} (h : y.fine) {x : Ix} (hx : x.lt y.size) {out : List D} (ho : out = Ix.zero.cells ++ zeroF) :
    Goes Tryz.prog G 0 (loopOf Tryz.f21 0) (bsSt y true false out x) .normal (bsSt y (!decide (Ix.last y.size x)) true (chC (x, y.f x)) (if Ix.last y.size x then Ix.zero else Ix.next y.size x)) := by
  subst ho
  have bd := Bound49 (G := G) hG h (lo := x) (hi := x) ⟨Nat.le_refl _, Nat.le_refl _, Nat.le_refl _, Nat.le_refl _⟩ hx
  have nx := PNext (G := G) hG hx (Cat.size4 h)
  show Goes _ _ _ _ _ _ (bsSt y (!decide (Ix.last y.size x)) true (chC (x, y.low x x)) _)
  generalize y.low x x = q at bd
  by_cases hl : Ix.last y.size x
  · rw [if_pos hl, decide_eq_true hl]
    exact Goes.of_run hG (ro := []) (m := 60) (lay_len ..) [.call bd, .call (nx.2 hl)] (by kernel_rfl)
  · rw [if_neg hl, decide_eq_false hl]
    have n1 := nx.1 hl
    generalize Ix.next y.size x = z at n1
    exact Goes.of_run hG (ro := []) (m := 60) (lay_len ..) [.call bd, .call n1] (by kernel_rfl)
theorem bs_next (hG : Steady G) {y : Cat} (h : y.fine) {x : Ix} (hx : x.lt y.size) {b : Ix × Rat} (hb : SzQ 3500 b.2) :
    Goes Tryz.prog G 0 (loopOf Tryz.f21 0) (bsSt y true true (chC b) x) .normal (bsSt y (!decide (Ix.last y.size x)) true (chC (if y.f x < b.2 then (x, y.f x) else b)) (if Ix.last y.size x then Ix.zero else Ix.next y.size x)) := by
  have kb := KB_eq
  have bd := Bound49 (G := G) hG h (lo := x) (hi := x) ⟨Nat.le_refl _, Nat.le_refl _, Nat.le_refl _, Nat.le_refl _⟩ hx
  have nx := PNext (G := G) hG hx (Cat.size4 h)
  have sq := f_sz h hx
  have cm := FCmp_spec (G := G) hG sq.isQ hb.isQ (by omega) (by omega)
  show Goes _ _ _ _ _ _ (bsSt y (!decide (Ix.last y.size x)) true (chC (if y.low x x < b.2 then (x, y.low x x) else b)) _)
  have cm : Spec Tryz.prog G 31 [F (y.low x x), F b.2] (int (cmpQ (y.low x x) b.2)) := cm
  generalize y.low x x = q at bd cm
  obtain ⟨bi, bq⟩ := b
  by_cases hl : Ix.last y.size x
  · rw [if_pos hl, decide_eq_true hl]
    by_cases hq : q < bq
    · rw [if_pos hq]
      exact Goes.of_run hG (ro := []) (m := 60) (lay_len ..) [.call bd, .call cm, .eq 46 (Lw.eqB (cmp_ltT hq)), .call (nx.2 hl)] (by kernel_rfl)
    · rw [if_neg hq]
      exact Goes.of_run hG (ro := []) (m := 60) (lay_len ..) [.call bd, .call cm, .eq 46 (Lw.eqB (cmp_ltF hq)), .call (nx.2 hl)] (by kernel_rfl)
  · rw [if_neg hl, decide_eq_false hl]
    have n1 := nx.1 hl
    generalize Ix.next y.size x = z at n1
    by_cases hq : q < bq
    · rw [if_pos hq]
      exact Goes.of_run hG (ro := []) (m := 60) (lay_len ..) [.call bd, .call cm, .eq 46 (Lw.eqB (cmp_ltT hq)), .call n1] (by kernel_rfl)
    · rw [if_neg hq]
      exact Goes.of_run hG (ro := []) (m := 60) (lay_len ..) [.call bd, .call cm, .eq 46 (Lw.eqB (cmp_ltF hq)), .call n1] (by kernel_rfl)
/-- What is next in the order. -/
theorem next_dig {n : Ix} {k : Nat} (h : k < Ix.all n) : (k + 1 < Ix.all n → ¬ Ix.last n (Ix.dig n k) ∧ Ix.next n (Ix.dig n k) = Ix.dig n (k + 1)) ∧ (¬ k + 1 < Ix.all n → Ix.last n (Ix.dig n k)) := by
  obtain ⟨e, hl⟩ := num_dig h
  constructor
  · intro h2
    have hn : ¬ Ix.last n (Ix.dig n k) := fun g => by have := last_num hl g; omega
    obtain ⟨a, b⟩ := next_lt hl hn
    refine ⟨hn, ?_⟩
    rw [← dig_num a, b, e]
  · intro h2
    by_cases g : Ix.last n (Ix.dig n k)
    · exact g
    · obtain ⟨a, b⟩ := next_lt hl g
      have := num_lt a
      omega
def bsInv (y : Cat) (k : Nat) : St := match k with
  | 0 => bsSt y true false (Ix.zero.cells ++ zeroF) Ix.zero
  | k + 1 => bsSt y (decide (k + 1 < Ix.all y.size)) true (chC (bestN y.size y.f k)) (if k + 1 < Ix.all y.size then Ix.dig y.size (k + 1) else Ix.zero)
theorem dig_zero (n : Ix) : Ix.dig n 0 = Ix.zero := by unfold Ix.dig Ix.zero; simp
theorem best_sz {y : Cat} (h : y.fine) {k : Nat} (hk : k < Ix.all y.size) : SzQ 3500 (bestN y.size y.f k).2 := by
  obtain ⟨j, h1, h2⟩ := best_at y.size y.f k
  rw [h2]
  exact f_sz h (num_dig (by omega)).2
theorem bs_round (hG : Steady G) {y : Cat} (h : y.fine) {k : Nat} (hk : k < Ix.all y.size) : Goes Tryz.prog G 0 (loopOf Tryz.f21 0) (bsInv y k) .normal (bsInv y (k + 1)) := by
  have hx := (num_dig hk).2
  have hn := next_dig hk
  have e1 : (!decide (Ix.last y.size (Ix.dig y.size k))) = decide (k + 1 < Ix.all y.size) := by
    by_cases g : k + 1 < Ix.all y.size
    · rw [decide_eq_false (hn.1 g).1, decide_eq_true g]; rfl
    · rw [decide_eq_true (hn.2 g), decide_eq_false g]; rfl
  have e2 : (if Ix.last y.size (Ix.dig y.size k) then Ix.zero else Ix.next y.size (Ix.dig y.size k)) = (if k + 1 < Ix.all y.size then Ix.dig y.size (k + 1) else Ix.zero) := by
    by_cases g : k + 1 < Ix.all y.size
    · rw [if_neg (hn.1 g).1, if_pos g, (hn.1 g).2]
    · rw [if_pos (hn.2 g), if_neg g]
  cases k with
  | zero =>
    have r := bs_first (G := G) hG h hx rfl
    rw [e1, e2] at r
    rw [dig_zero] at r
    show Goes _ _ _ _ (bsSt y true false (Ix.zero.cells ++ zeroF) Ix.zero) _ (bsSt y (decide (0 + 1 < Ix.all y.size)) true (chC (Ix.dig y.size 0, y.f (Ix.dig y.size 0))) _)
    rw [dig_zero]
    exact r
  | succ k =>
    have r := bs_next (G := G) hG h hx (best_sz h (show k < Ix.all y.size by omega))
    rw [e1, e2] at r
    show Goes _ _ _ _ (bsSt y (decide (k + 1 < Ix.all y.size)) true (chC (bestN y.size y.f k)) (if k + 1 < Ix.all y.size then Ix.dig y.size (k + 1) else Ix.zero)) _ (bsSt y (decide (k + 1 + 1 < Ix.all y.size)) true (chC (if y.f (Ix.dig y.size (k + 1)) < (bestN y.size y.f k).2 then (Ix.dig y.size (k + 1), y.f (Ix.dig y.size (k + 1))) else bestN y.size y.f k)) _)
    rw [decide_eq_true hk, if_pos hk]
    exact r
def Cat.best (y : Cat) : Ix × Rat := bestOf y.size y.f
def chD (c : Ix × Rat) : D := .agg (chC c)
theorem all_pos {y : Cat} (h : y.fine) : 0 < Ix.all y.size := by
  have := num_lt (Cat.size0 h)
  omega
theorem PBest_ok (hG : Steady G) {y : Cat} (hy : y.good G) : Spec Tryz.prog G 21 [y.raw.dat] (.tup [chD y.best, .lit .nilIface]) := by
  have h := hy.fine
  have hp := all_pos h
  have e : bsInv y (Ix.all y.size) = bsSt y false true (chC y.best) Ix.zero := by
    obtain ⟨k, hk⟩ : ∃ k, Ix.all y.size = k + 1 := ⟨Ix.all y.size - 1, by omega⟩
    unfold Cat.best bestOf
    rw [hk]
    show bsSt y (decide (k + 1 < Ix.all y.size)) true (chC (bestN y.size y.f k)) (if k + 1 < Ix.all y.size then Ix.dig y.size (k + 1) else Ix.zero) = _
    rw [decide_eq_false (by omega), if_neg (by omega)]
    rfl
  have lp := Abs.count (P := Tryz.prog) (Good := G) (gb := 0) (body := loopOf Tryz.f21 0) (e := .exit 0) (s' := bsSt y false true (chC y.best) Ix.zero) (bsInv y) (Ix.all y.size) (len := 52) (fun i => by cases i <;> exact lay_len ..) (by intro h; cases h)
    (fun k hk => bs_round hG h hk) (by rw [e]; generalize y.best = b; exact Goes.of_run hG (ro := []) (m := 60) (lay_len ..) [] (by kernel_rfl))
  generalize y.best = b at lp
  have lp : Abs Tryz.prog G 52 0 (.loop (loopOf Tryz.f21 0)) (bsSt y true false (Ix.zero.cells ++ zeroF) Ix.zero) (.exit 0) (bsSt y false true (chC b) Ix.zero) := lp
  exact Spec.of_run hG Tryz.func21 (ro := [1]) (m := 60) [.call hy.check, .call (PLast hG h), .code lp] (by kernel_rfl)
theorem PBest_bad (hG : Steady G) {x : RCt} (hd : x.digs) (hb : x.far) (hs : x.short) (h : x.code ≠ 0) : Spec Tryz.prog G 21 [x.dat] (.tup [chD (Ix.zero, 0), errno x.code]) := by
  have ck := PCheck (G := G) hG hd hb hs
  rw [errOf_ne h] at ck
  generalize x.code = c at ck
  exact Spec.of_run hG Tryz.func21 (ro := [1]) (m := 60) [.call ck] (by kernel_rfl)
end Lw
