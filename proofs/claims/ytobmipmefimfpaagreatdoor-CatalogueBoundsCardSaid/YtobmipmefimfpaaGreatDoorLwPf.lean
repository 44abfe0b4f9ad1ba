/- Arguments opened: turns, places, displacements. No condition. -/
import Derived.Test.YtobmipmefimfpaaGreatDoorLwPc
namespace Lw
open Go Go.RowKit Go.Proofs Go.ChangeShapes Go.WideShapes Go.ChangeAt

section
variable {H : Type} {enc : TypeId × Value → H} {W : World} {fuel : Nat} {cs : List Value} {x : DataW H × List MemPlace}

theorem cells_turn : Tryz.prog.cellsOf 78 = 4 := by kernel_rfl
theorem cells_place : Tryz.prog.cellsOf 83 = 6 := by kernel_rfl
theorem split_two {α : Type} {l : List α} {a b : Nat} (h : l.length = a + b) : l = (l.drop 0).take a ++ (l.drop a).take b := by
  rw [List.drop_zero, List.take_of_length_le (l := l.drop a) (by rw [List.length_drop]; omega), List.take_append_drop]
theorem Reps.two {W : World} {X : Nat → Prop} {l : List Value} {p q : List D} {a b : Nat} (h : l.length = a + b) (h1 : Reps W X ((l.drop 0).take a) p) (h2 : Reps W X ((l.drop a).take b) q) : Reps W X l (p ++ q) := by
  rw [split_two h]; exact Reps.append h1 h2
theorem open_turn (h : DataW.trod enc Tryz.prog W 0 (fun _ => true) true fuel 78 cs = some x) : ∃ r : RTn, (Dig r.t.n ∧ Dig r.t.d) ∧ Reps W NoX cs r.cells ∧ cs.length = 4 := by
  obtain ⟨xs, n, -, -, hc, hx, hf⟩ := DataW.trod_struct Tryz.underlying78 h
  rw [cells_turn] at hc
  have hx2 : xs.length = 2 := hx
  obtain ⟨y0, e0⟩ := some_of (l := xs) (i := 0) (by omega)
  obtain ⟨y1, e1⟩ := some_of (l := xs) (i := 1) (by omega)
  have f0 := field_read hf 0 _ rfl (t := 31) (off := 0) rfl rfl cells_rat
  have f1 := field_read hf 1 _ rfl (t := 4) (off := 3) rfl rfl cells_bool
  rw [e0] at f0
  rw [e1] at f1
  obtain ⟨r1, a1, a2, q1⟩ := open_rat f0
  obtain ⟨b, hb, -⟩ := DataW.trod_bool Tryz.underlying4 f1
  refine ⟨⟨r1, b⟩, ⟨a1, a2⟩, ?_, hc⟩
  exact Reps.two (a := 3) (b := 1) hc q1 (by rw [hb]; exact Reps.cons (.lit _) Reps.nil)
theorem open_place (h : DataW.trod enc Tryz.prog W 0 (fun _ => true) true fuel 83 cs = some x) : ∃ r : RPl, ((Dig r.x.n ∧ Dig r.x.d) ∧ Dig r.y.n ∧ Dig r.y.d) ∧ Reps W NoX cs r.cells ∧ cs.length = 6 := by
  obtain ⟨xs, n, -, -, hc, hx, hf⟩ := DataW.trod_struct Tryz.underlying83 h
  rw [cells_place] at hc
  have hx2 : xs.length = 2 := hx
  obtain ⟨y0, e0⟩ := some_of (l := xs) (i := 0) (by omega)
  obtain ⟨y1, e1⟩ := some_of (l := xs) (i := 1) (by omega)
  have f0 := field_read hf 0 _ rfl (t := 31) (off := 0) rfl rfl cells_rat
  have f1 := field_read hf 1 _ rfl (t := 31) (off := 3) rfl rfl cells_rat
  rw [e0] at f0
  rw [e1] at f1
  obtain ⟨r1, a1, a2, q1⟩ := open_rat f0
  obtain ⟨r2, b1, b2, q2⟩ := open_rat f1
  exact ⟨⟨r1, r2⟩, ⟨⟨a1, a2⟩, b1, b2⟩, Reps.two (a := 3) (b := 3) hc q1 q2, hc⟩
def RTn.digs (r : RTn) : Prop := Dig r.t.n ∧ Dig r.t.d
def RPl.digs (r : RPl) : Prop := (Dig r.x.n ∧ Dig r.x.d) ∧ Dig r.y.n ∧ Dig r.y.d
def RPo.digs (r : RPo) : Prop := r.u.digs ∧ r.a.digs
theorem turn_arg {v : Value} {d : DataW H} {ps : List MemPlace} (h : DataW.Trod enc Tryz.prog W 0 (fun _ => true) true 78 v d ps) : ∃ r : RTn, r.digs ∧ RepP W NoX v r.dat := by
  obtain ⟨f, hf⟩ := h
  obtain ⟨r, h1, h3, h4⟩ := open_turn hf
  exact ⟨r, h1, rep_agg (n := 2) h4 h3⟩
theorem place_arg {v : Value} {d : DataW H} {ps : List MemPlace} (h : DataW.Trod enc Tryz.prog W 0 (fun _ => true) true 83 v d ps) : ∃ r : RPl, r.digs ∧ RepP W NoX v r.dat := by
  obtain ⟨f, hf⟩ := h
  obtain ⟨r, h1, h3, h4⟩ := open_place hf
  exact ⟨r, h1, rep_agg (n := 4) h4 h3⟩
theorem split_three {α : Type} {l : List α} {a : Nat} (h : l.length = 3 * a) : l = (l.drop (0 * a)).take a ++ ((l.drop (1 * a)).take a ++ (l.drop (2 * a)).take a) := by
  rw [Nat.zero_mul, Nat.one_mul, List.drop_zero]
  have h1 : l = l.take a ++ l.drop a := (List.take_append_drop a l).symm
  have h2 : l.drop a = (l.drop a).take a ++ (l.drop a).drop a := (List.take_append_drop a (l.drop a)).symm
  rw [List.drop_drop] at h2
  rw [List.take_of_length_le (l := l.drop (2 * a)) (by rw [List.length_drop]; omega), Nat.two_mul, ← h2]
  exact h1
theorem Reps.three {W : World} {X : Nat → Prop} {l : List Value} {p q r : List D} {a : Nat} (h : l.length = 3 * a) (h1 : Reps W X ((l.drop (0 * a)).take a) p) (h2 : Reps W X ((l.drop (1 * a)).take a) q) (h3 : Reps W X ((l.drop (2 * a)).take a) r) : Reps W X l (p ++ (q ++ r)) := by
  have e := split_three h
  have := Reps.append h1 (Reps.append h2 h3)
  rw [← e] at this
  exact this
theorem el_at {n m sz : Nat} {e : TypeId} {xs : List (DataW H × List MemPlace)} (hf : ∀ (i : Nat), i < n → DataW.trod enc Tryz.prog W 0 (fun _ => true) true m e ((cs.drop (i * Tryz.prog.cellsOf e)).take (Tryz.prog.cellsOf e)) = xs[i]?) (he : Tryz.prog.cellsOf e = sz) (hn : xs.length = n) (i : Nat) (hi : i < n) :
    ∃ y, DataW.trod enc Tryz.prog W 0 (fun _ => true) true m e ((cs.drop (i * sz)).take sz) = some y := by
  subst he
  obtain ⟨y, q⟩ := some_of (l := xs) (i := i) (by omega)
  exact ⟨y, (hf i hi).trans q⟩
end
end Lw

namespace Lw
open Go Go.RowKit Go.Proofs

variable {G : World → Prop}

theorem gt2_true {n : Nat} (h : ¬ n ≤ 2) : decide (Int.ofNat n > 2) = true := by simp only [Int.ofNat_eq_natCast, decide_eq_true_eq]; omega
theorem gt2_false {n : Nat} (h : n ≤ 2) : decide (Int.ofNat n > 2) = false := by simp only [Int.ofNat_eq_natCast, decide_eq_false_iff_not]; omega
def RPo.short (r : RPo) : Prop := r.u.t.n.length ≤ 2 ∧ r.u.t.d.length ≤ 2 ∧ r.a.x.n.length ≤ 2 ∧ r.a.x.d.length ≤ 2 ∧ r.a.y.n.length ≤ 2 ∧ r.a.y.d.length ≤ 2
def RPl.short (r : RPl) : Prop := r.x.n.length ≤ 2 ∧ r.x.d.length ≤ 2 ∧ r.y.n.length ≤ 2 ∧ r.y.d.length ≤ 2
theorem RPo.short_ok {r : RPo} (h : r.digs) (s : r.short) : r.ok 2 := ⟨⟨h.1.1, h.1.2, s.1, s.2.1, by omega⟩, ⟨h.2.1.1, h.2.1.2, s.2.2.1, s.2.2.2.1, by omega⟩, ⟨h.2.2.1, h.2.2.2, s.2.2.2.2.1, s.2.2.2.2.2, by omega⟩⟩
theorem RPl.short_ok {r : RPl} (h : r.digs) (s : r.short) : r.ok 2 := ⟨⟨h.1.1, h.1.2, s.1, s.2.1, by omega⟩, ⟨h.2.1, h.2.2, s.2.2.1, s.2.2.2, by omega⟩⟩
theorem ShortPl1 (hG : Steady G) (r1 : RPl) : (r1.short → Spec Tryz.prog G 37 [.row 1 false r1.cells] (bool true)) ∧ (¬ (r1.short) → Spec Tryz.prog G 37 [.row 1 false r1.cells] (bool false)) := by
  constructor
  · rintro ⟨g0, g1, g2, g3⟩
    exact Spec.of_run hG Tryz.func37 (ro := []) (m := 60) [.eq 26 (eqB (gt2_false g0)), .eq 31 (eqB (gt2_false g1)), .eq 26 (eqB (gt2_false g2)), .eq 31 (eqB (gt2_false g3))] (by kernel_rfl)
  · intro hn
    by_cases g0 : r1.x.n.length ≤ 2
    case neg => exact Spec.of_run hG Tryz.func37 (ro := []) (m := 60) [.eq 26 (eqB (gt2_true g0))] (by kernel_rfl)
    by_cases g1 : r1.x.d.length ≤ 2
    case neg => exact Spec.of_run hG Tryz.func37 (ro := []) (m := 60) [.eq 26 (eqB (gt2_false g0)), .eq 31 (eqB (gt2_true g1))] (by kernel_rfl)
    by_cases g2 : r1.y.n.length ≤ 2
    case neg => exact Spec.of_run hG Tryz.func37 (ro := []) (m := 60) [.eq 26 (eqB (gt2_false g0)), .eq 31 (eqB (gt2_false g1)), .eq 26 (eqB (gt2_true g2))] (by kernel_rfl)
    by_cases g3 : r1.y.d.length ≤ 2
    case neg => exact Spec.of_run hG Tryz.func37 (ro := []) (m := 60) [.eq 26 (eqB (gt2_false g0)), .eq 31 (eqB (gt2_false g1)), .eq 26 (eqB (gt2_false g2)), .eq 31 (eqB (gt2_true g3))] (by kernel_rfl)
    exact absurd ⟨g0, g1, g2, g3⟩ hn
theorem ShortPl3 (hG : Steady G) (r1 r2 r3 : RPl) : (r1.short ∧ r2.short ∧ r3.short → Spec Tryz.prog G 37 [.row 3 false (r1.cells ++ (r2.cells ++ r3.cells))] (bool true)) ∧ (¬ (r1.short ∧ r2.short ∧ r3.short) → Spec Tryz.prog G 37 [.row 3 false (r1.cells ++ (r2.cells ++ r3.cells))] (bool false)) := by
  constructor
  · rintro ⟨⟨g0, g1, g2, g3⟩, ⟨g4, g5, g6, g7⟩, ⟨g8, g9, g10, g11⟩⟩
    exact Spec.of_run hG Tryz.func37 (ro := []) (m := 60) [.eq 26 (eqB (gt2_false g0)), .eq 31 (eqB (gt2_false g1)), .eq 26 (eqB (gt2_false g2)), .eq 31 (eqB (gt2_false g3)), .eq 26 (eqB (gt2_false g4)), .eq 31 (eqB (gt2_false g5)), .eq 26 (eqB (gt2_false g6)), .eq 31 (eqB (gt2_false g7)), .eq 26 (eqB (gt2_false g8)), .eq 31 (eqB (gt2_false g9)), .eq 26 (eqB (gt2_false g10)), .eq 31 (eqB (gt2_false g11))] (by kernel_rfl)
  · intro hn
    by_cases g0 : r1.x.n.length ≤ 2
    case neg => exact Spec.of_run hG Tryz.func37 (ro := []) (m := 60) [.eq 26 (eqB (gt2_true g0))] (by kernel_rfl)
    by_cases g1 : r1.x.d.length ≤ 2
    case neg => exact Spec.of_run hG Tryz.func37 (ro := []) (m := 60) [.eq 26 (eqB (gt2_false g0)), .eq 31 (eqB (gt2_true g1))] (by kernel_rfl)
    by_cases g2 : r1.y.n.length ≤ 2
    case neg => exact Spec.of_run hG Tryz.func37 (ro := []) (m := 60) [.eq 26 (eqB (gt2_false g0)), .eq 31 (eqB (gt2_false g1)), .eq 26 (eqB (gt2_true g2))] (by kernel_rfl)
    by_cases g3 : r1.y.d.length ≤ 2
    case neg => exact Spec.of_run hG Tryz.func37 (ro := []) (m := 60) [.eq 26 (eqB (gt2_false g0)), .eq 31 (eqB (gt2_false g1)), .eq 26 (eqB (gt2_false g2)), .eq 31 (eqB (gt2_true g3))] (by kernel_rfl)
    by_cases g4 : r2.x.n.length ≤ 2
    case neg => exact Spec.of_run hG Tryz.func37 (ro := []) (m := 60) [.eq 26 (eqB (gt2_false g0)), .eq 31 (eqB (gt2_false g1)), .eq 26 (eqB (gt2_false g2)), .eq 31 (eqB (gt2_false g3)), .eq 26 (eqB (gt2_true g4))] (by kernel_rfl)
    by_cases g5 : r2.x.d.length ≤ 2
    case neg => exact Spec.of_run hG Tryz.func37 (ro := []) (m := 60) [.eq 26 (eqB (gt2_false g0)), .eq 31 (eqB (gt2_false g1)), .eq 26 (eqB (gt2_false g2)), .eq 31 (eqB (gt2_false g3)), .eq 26 (eqB (gt2_false g4)), .eq 31 (eqB (gt2_true g5))] (by kernel_rfl)
    by_cases g6 : r2.y.n.length ≤ 2
    case neg => exact Spec.of_run hG Tryz.func37 (ro := []) (m := 60) [.eq 26 (eqB (gt2_false g0)), .eq 31 (eqB (gt2_false g1)), .eq 26 (eqB (gt2_false g2)), .eq 31 (eqB (gt2_false g3)), .eq 26 (eqB (gt2_false g4)), .eq 31 (eqB (gt2_false g5)), .eq 26 (eqB (gt2_true g6))] (by kernel_rfl)
    by_cases g7 : r2.y.d.length ≤ 2
    case neg => exact Spec.of_run hG Tryz.func37 (ro := []) (m := 60) [.eq 26 (eqB (gt2_false g0)), .eq 31 (eqB (gt2_false g1)), .eq 26 (eqB (gt2_false g2)), .eq 31 (eqB (gt2_false g3)), .eq 26 (eqB (gt2_false g4)), .eq 31 (eqB (gt2_false g5)), .eq 26 (eqB (gt2_false g6)), .eq 31 (eqB (gt2_true g7))] (by kernel_rfl)
    by_cases g8 : r3.x.n.length ≤ 2
    case neg => exact Spec.of_run hG Tryz.func37 (ro := []) (m := 60) [.eq 26 (eqB (gt2_false g0)), .eq 31 (eqB (gt2_false g1)), .eq 26 (eqB (gt2_false g2)), .eq 31 (eqB (gt2_false g3)), .eq 26 (eqB (gt2_false g4)), .eq 31 (eqB (gt2_false g5)), .eq 26 (eqB (gt2_false g6)), .eq 31 (eqB (gt2_false g7)), .eq 26 (eqB (gt2_true g8))] (by kernel_rfl)
    by_cases g9 : r3.x.d.length ≤ 2
    case neg => exact Spec.of_run hG Tryz.func37 (ro := []) (m := 60) [.eq 26 (eqB (gt2_false g0)), .eq 31 (eqB (gt2_false g1)), .eq 26 (eqB (gt2_false g2)), .eq 31 (eqB (gt2_false g3)), .eq 26 (eqB (gt2_false g4)), .eq 31 (eqB (gt2_false g5)), .eq 26 (eqB (gt2_false g6)), .eq 31 (eqB (gt2_false g7)), .eq 26 (eqB (gt2_false g8)), .eq 31 (eqB (gt2_true g9))] (by kernel_rfl)
    by_cases g10 : r3.y.n.length ≤ 2
    case neg => exact Spec.of_run hG Tryz.func37 (ro := []) (m := 60) [.eq 26 (eqB (gt2_false g0)), .eq 31 (eqB (gt2_false g1)), .eq 26 (eqB (gt2_false g2)), .eq 31 (eqB (gt2_false g3)), .eq 26 (eqB (gt2_false g4)), .eq 31 (eqB (gt2_false g5)), .eq 26 (eqB (gt2_false g6)), .eq 31 (eqB (gt2_false g7)), .eq 26 (eqB (gt2_false g8)), .eq 31 (eqB (gt2_false g9)), .eq 26 (eqB (gt2_true g10))] (by kernel_rfl)
    by_cases g11 : r3.y.d.length ≤ 2
    case neg => exact Spec.of_run hG Tryz.func37 (ro := []) (m := 60) [.eq 26 (eqB (gt2_false g0)), .eq 31 (eqB (gt2_false g1)), .eq 26 (eqB (gt2_false g2)), .eq 31 (eqB (gt2_false g3)), .eq 26 (eqB (gt2_false g4)), .eq 31 (eqB (gt2_false g5)), .eq 26 (eqB (gt2_false g6)), .eq 31 (eqB (gt2_false g7)), .eq 26 (eqB (gt2_false g8)), .eq 31 (eqB (gt2_false g9)), .eq 26 (eqB (gt2_false g10)), .eq 31 (eqB (gt2_true g11))] (by kernel_rfl)
    exact absurd ⟨⟨g0, g1, g2, g3⟩, ⟨g4, g5, g6, g7⟩, ⟨g8, g9, g10, g11⟩⟩ hn
end Lw

namespace Lw
open Go Go.RowKit Go.Proofs

variable {G : World → Prop}

structure Mv where
  t : Rat
  h : Bool
  x : Rat
  y : Rat
def Mv.ok (k : Nat) (m : Mv) : Prop := SzQ k m.t ∧ SzQ k m.x ∧ SzQ k m.y ∧ (m.h = true → m.t = 0)
def Mv.dat (m : Mv) : D := FPo m.t m.h m.x m.y
def Mv.next (a b : Mv) : Mv := ⟨addTt a.t a.h b.t b.h, addTh a.t a.h b.t b.h, imgX b.t b.h b.x a.x a.y, imgY b.t b.h b.y a.x a.y⟩
def Mv.none : Mv := ⟨0, false, 0, 0⟩
def Mv.pow (p : Mv) : Nat → Mv
  | 0 => Mv.none
  | n + 1 => (Mv.pow p n).next p
theorem Mv.ok.mono {k l : Nat} {m : Mv} (h : m.ok k) (hl : k ≤ l) : m.ok l := ⟨h.1.mono hl, h.2.1.mono hl, h.2.2.1.mono hl, h.2.2.2⟩
theorem Mv.none_ok {k : Nat} (h : 0 < k) : Mv.none.ok k := ⟨sz_zero h, sz_zero h, sz_zero h, fun e => by cases e⟩
theorem Mv.next_ok {k l : Nat} {a b : Mv} (ha : a.ok k) (hb : b.ok l) : (a.next b).ok (9 * l + 2 * k + 10) := by
  obtain ⟨a1, a2, a3, a4⟩ := ha
  obtain ⟨b1, b2, b3, b4⟩ := hb
  obtain ⟨i1, i2⟩ := b1.img b2 b3 a2 a3 b.h
  exact ⟨(a1.addT b1 a.h b.h).mono (by have := b1.2.2; omega), i1, i2, addT_valid⟩
theorem Mv.pow_ok {p : Mv} (h : p.ok 2) (n : Nat) : (p.pow n).ok (56 * 2 ^ n - 28) := by
  induction n with
  | zero => exact Mv.none_ok (by omega)
  | succ n ih =>
    refine (Mv.next_ok ih h).mono ?_
    have := Nat.two_pow_pos n
    rw [Nat.pow_succ]
    omega
/-! ### awake -/
def q12 : Rat := Rat.divInt 1 2
theorem sq12 : SzQ 1 q12 := by unfold SzQ; decide +kernel
theorem FText_q12 (hG : Steady G) : Spec Tryz.prog G 36 [F q12] (txt [49, 47, 50]) := by
  have p1 := sq12.isQ.parts (G := G) hG (by rw [KB_eq]; omega)
  rw [show q12.num = 1 by decide +kernel, show q12.den = 2 by decide +kernel] at p1
  have c := Cmp_spec (G := G) hG (i := ((2 : Nat) : Int)) (j := 1) (szI_lit (by omega)) szI_one
  exact Spec.of_run hG Tryz.func36 (ro := [1]) (m := 40) [.call p1, .call (one_spec hG), .call c, .call (Text_1 hG), .call (Text_2 hG)] (by kernel_rfl)
def qua : Mv := ⟨1, false, 1, 0⟩
theorem qua_ok : qua.ok 2 := ⟨sz_1.mono (by omega), sz_1.mono (by omega), sz_zero (by omega), fun e => by cases e⟩
end Lw
