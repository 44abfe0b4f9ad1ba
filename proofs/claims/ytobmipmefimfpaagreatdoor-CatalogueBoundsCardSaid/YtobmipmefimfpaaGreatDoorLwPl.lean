/- The statements about groups of displacements and rigid motion, run. No condition. -/
import Derived.Test.YtobmipmefimfpaaGreatDoorLwPk
namespace Lw
open Go Go.RowKit Go.Proofs

variable {G : World → Prop}

/-! ### Plain laws -/
theorem cosT_neg (t : Rat) (h : Bool) : cosT (-t) h = cosT t h := by
  unfold cosT
  rw [show -t * -t = t * t by grind]
theorem sinT_neg (t : Rat) (h : Bool) : sinT (-t) h = - sinT t h := by
  unfold sinT
  cases h with
  | true => simp
  | false =>
    rw [show -t * -t = t * t by grind, Rat.div_def, Rat.div_def]
    simp only [Bool.false_eq_true, if_false]
    grind
theorem Mv.ext {a b : Mv} (h1 : a.t = b.t) (h2 : a.h = b.h) (h3 : a.x = b.x) (h4 : a.y = b.y) : a = b := by
  obtain ⟨t, h, x, y⟩ := a
  obtain ⟨t', h', x', y'⟩ := b
  cases h1; cases h2; cases h3; cases h4
  rfl
theorem Mv.next_cs {a b : Mv} (ha : a.fit) (hb : b.fit) : cosT (a.next b).t (a.next b).h = cosT a.t a.h * cosT b.t b.h - sinT a.t a.h * sinT b.t b.h ∧ sinT (a.next b).t (a.next b).h = sinT a.t a.h * cosT b.t b.h + cosT a.t a.h * sinT b.t b.h := turn_add ha hb
theorem Mv.next_xy (a b : Mv) : (a.next b).x = b.imX a.x a.y ∧ (a.next b).y = b.imY a.x a.y := ⟨rfl, rfl⟩
theorem Mv.assoc {a b c : Mv} (ha : a.fit) (hb : b.fit) (hc : c.fit) : (a.next b).next c = a.next (b.next c) := by
  obtain ⟨p1, p2⟩ := Mv.next_cs ha hb
  obtain ⟨p3, p4⟩ := Mv.next_cs (Mv.next_fit a b) hc
  obtain ⟨p5, p6⟩ := Mv.next_cs hb hc
  obtain ⟨p7, p8⟩ := Mv.next_cs ha (Mv.next_fit b c)
  obtain ⟨e1, e2⟩ := turn_ext (Mv.next_fit (a.next b) c) (Mv.next_fit a (b.next c)) (by rw [p3, p7, p1, p2, p5, p6]; grind) (by rw [p4, p8, p1, p2, p5, p6]; grind)
  obtain ⟨i1, i2⟩ := Mv.next_im hb hc a.x a.y
  exact Mv.ext e1 e2 i1.symm i2.symm
theorem Mv.inv_fit {a : Mv} (ha : a.fit) : a.inv.fit := neg_valid ha
theorem Mv.next_inv {a : Mv} (ha : a.fit) : a.next a.inv = Mv.none := by
  obtain ⟨p1, p2⟩ := Mv.next_cs ha (Mv.inv_fit ha)
  have hu := unit_T a.t a.h
  have c1 : cosT a.inv.t a.inv.h = cosT a.t a.h := cosT_neg a.t a.h
  have s1 : sinT a.inv.t a.inv.h = - sinT a.t a.h := sinT_neg a.t a.h
  rw [c1, s1] at p1 p2
  have n1 : Mv.none.fit := fun e => by cases e
  have z1 : cosT Mv.none.t Mv.none.h = 1 := cosT_zero
  have z2 : sinT Mv.none.t Mv.none.h = 0 := sinT_zero
  obtain ⟨e1, e2⟩ := turn_ext (Mv.next_fit a a.inv) n1 (by rw [p1, z1]; grind) (by rw [p2, z2]; grind)
  refine Mv.ext e1 e2 ?_ ?_
  · show rotX (-a.t) a.h a.x a.y + rotX (-a.t) a.h (-a.x) (-a.y) = 0
    unfold rotX
    grind
  · show rotY (-a.t) a.h a.x a.y + rotY (-a.t) a.h (-a.x) (-a.y) = 0
    unfold rotY
    grind
theorem Mv.none_next {b : Mv} (hb : b.fit) : Mv.none.next b = b := by
  have n1 : Mv.none.fit := fun e => by cases e
  obtain ⟨p1, p2⟩ := Mv.next_cs n1 hb
  have z1 : cosT Mv.none.t Mv.none.h = 1 := cosT_zero
  have z2 : sinT Mv.none.t Mv.none.h = 0 := sinT_zero
  rw [z1, z2] at p1 p2
  obtain ⟨e1, e2⟩ := turn_ext (Mv.next_fit Mv.none b) hb (by rw [p1]; grind) (by rw [p2]; grind)
  refine Mv.ext e1 e2 ?_ ?_
  · show rotX b.t b.h 0 0 + b.x = b.x
    unfold rotX
    grind
  · show rotY b.t b.h 0 0 + b.y = b.y
    unfold rotY
    grind
theorem Mv.next_bet {a b : Mv} (ha : a.fit) (hb : b.fit) : a.next (a.bet b) = b := by
  unfold Mv.bet
  rw [← Mv.assoc ha (Mv.inv_fit ha) hb, Mv.next_inv ha, Mv.none_next hb]
theorem Mv.eqB_self (a : Mv) : a.eqB a = true := by
  unfold Mv.eqB
  rw [beq_self_eq_true, decide_eq_true rfl, decide_eq_true rfl, decide_eq_true rfl]
  rfl
/-! ### PoseGroup -/
theorem Mv.raw_ok {k : Nat} {m : Mv} (h : m.ok k) : m.raw.ok k := ⟨h.1.ok, h.2.1.ok, h.2.2.1.ok⟩
theorem Mv.raw_valid {k : Nat} {m : Mv} (h : m.ok k) : m.raw.valid = true := FPo_valid h.2.2.2
theorem Mv.im_sz {k l : Nat} {m : Mv} {a b : Rat} (h : m.ok k) (sa : SzQ l a) (sb : SzQ l b) : SzQ (9 * k + 2 * l + 10) (m.imX a b) ∧ SzQ (9 * k + 2 * l + 10) (m.imY a b) := h.1.img h.2.1 h.2.2.1 sa sb m.h
def poses3 (r1 r2 r3 : RPo) : D := .agg (r1.cells ++ (r2.cells ++ r3.cells))
def places3 (r1 r2 r3 : RPl) : D := .agg (r1.cells ++ (r2.cells ++ r3.cells))
/-! ### PoseRigid -/
end Lw
