/- Poles: plain laws. No condition. -/
import Derived.Test.YthccbdlkfiogiaaGreatDoorLwGb
namespace Lw
open Go Go.RowKit Go.Proofs

variable {G : World → Prop}

def Mv.fixX (m : Mv) : Rat := Lw.fixX m.t m.h m.x m.y
def Mv.fixY (m : Mv) : Rat := Lw.fixY m.t m.h m.x m.y
def Mv.still (m : Mv) : Prop := m.h = false ∧ m.t = 0
instance (m : Mv) : Decidable m.still := by unfold Mv.still; infer_instance
theorem Mv.fix_sz {k : Nat} {m : Mv} (h : m.ok k) : SzQ (16 * k + 40) m.fixX ∧ SzQ (16 * k + 40) m.fixY := Lw.fix_sz h.1 h.2.1 h.2.2.1 m.h
theorem Mv.fix_im {m : Mv} (hn : ¬ m.still) : m.imX m.fixX m.fixY = m.fixX ∧ m.imY m.fixX m.fixY = m.fixY := fix_fixed hn m.x m.y
theorem Mv.bet_fit {m w : Mv} : (m.bet w).fit := Mv.next_fit m.inv w
theorem Mv.bet_ok {m w : Mv} (h : m.ok 2) (g : w.ok 2) : (m.bet w).ok 86 := by
  have ob : (m.bet w).ok (9 * 2 + 2 * (10 * 2 + 9) + 10) := Mv.next_ok (Mv.inv_ok h) g
  exact ob
/-- A rotation about a centre. -/
def Mv.about (t : Rat) (h : Bool) (x y : Rat) : Mv := ⟨t, h, x - rotX t h x y, y - rotY t h x y⟩
theorem Mv.about_fix {m : Mv} (hn : ¬ m.still) : Mv.about m.t m.h m.fixX m.fixY = m := by
  obtain ⟨e1, e2⟩ := Mv.fix_im hn
  refine Mv.ext rfl rfl ?_ ?_
  · have e1 : rotX m.t m.h m.fixX m.fixY + m.x = m.fixX := e1
    show m.fixX - rotX m.t m.h m.fixX m.fixY = m.x
    grind
  · have e2 : rotY m.t m.h m.fixX m.fixY + m.y = m.fixY := e2
    show m.fixY - rotY m.t m.h m.fixX m.fixY = m.y
    grind
theorem Mv.about_im (t : Rat) (h : Bool) (x y : Rat) : (Mv.about t h x y).imX x y = x ∧ (Mv.about t h x y).imY x y = y := by
  constructor
  · show rotX t h x y + (x - rotX t h x y) = x
    grind
  · show rotY t h x y + (y - rotY t h x y) = y
    grind
/-- What lies at the pole in the first position lies there in the second one. -/
theorem Mv.bet_stay {a b : Mv} (ha : a.fit) (hb : b.fit) (hn : ¬ (a.bet b).still) :
    b.imX (a.inv.imX (a.bet b).fixX (a.bet b).fixY) (a.inv.imY (a.bet b).fixX (a.bet b).fixY) = (a.bet b).fixX ∧ b.imY (a.inv.imX (a.bet b).fixX (a.bet b).fixY) (a.inv.imY (a.bet b).fixX (a.bet b).fixY) = (a.bet b).fixY := by
  obtain ⟨e1, e2⟩ := Mv.next_im (Mv.inv_fit ha) hb (a.bet b).fixX (a.bet b).fixY
  rw [← e1, ← e2]
  exact Mv.fix_im hn
/-- The second position of a place, by the way from the first one. -/
theorem Mv.bet_im {a b : Mv} (ha : a.fit) (hb : b.fit) (x y : Rat) : b.imX x y = (a.bet b).imX (a.imX x y) (a.imY x y) ∧ b.imY x y = (a.bet b).imY (a.imX x y) (a.imY x y) := by
  have e := Mv.next_bet ha hb
  obtain ⟨e1, e2⟩ := Mv.next_im ha (Mv.bet_fit (m := a) (w := b)) x y
  rw [e] at e1 e2
  exact ⟨e1, e2⟩
theorem Mv.bet_bet {a b c : Mv} (ha : a.fit) (hb : b.fit) (hc : c.fit) : (a.bet b).next (b.bet c) = a.bet c := by
  show (a.inv.next b).next (b.bet c) = a.inv.next c
  rw [Mv.assoc (Mv.inv_fit ha) hb (Mv.bet_fit (m := b) (w := c)), Mv.next_bet hb hc]
/-- The square of a distance. -/
def dst2 (a b x y : Rat) : Rat := (a - x) * (a - x) + (b - y) * (b - y)
def sq2 (a b : Rat) : Rat := a * a + b * b
theorem half_two (d : Rat) : d / 2 * 2 = d := Rat.div_mul_cancel (by decide +kernel)
/-- A place has the same distance from two others exactly if it is on their bisector. -/
theorem bis_iff (x y u v p q : Rat) : (u - x) * p + (v - y) * q = (sq2 u v - sq2 x y) / 2 ↔ dst2 x y p q = dst2 u v p q := by
  have h := half_two (sq2 u v - sq2 x y)
  generalize (sq2 u v - sq2 x y) / 2 = d at *
  unfold sq2 at h
  unfold dst2
  constructor
  · intro e
    rw [← e] at h
    grind
  · intro e
    have : ((u - x) * p + (v - y) * q) * 2 = d * 2 := by grind
    exact cancel (by decide +kernel) this
theorem bet_dist {a b : Mv} (ha : a.fit) (hb : b.fit) (hn : ¬ (a.bet b).still) (x y : Rat) :
    dst2 (a.imX x y) (a.imY x y) (a.bet b).fixX (a.bet b).fixY = dst2 (b.imX x y) (b.imY x y) (a.bet b).fixX (a.bet b).fixY := by
  obtain ⟨e1, e2⟩ := Mv.bet_im ha hb x y
  obtain ⟨f1, f2⟩ := Mv.fix_im hn
  have k := dist_keep (unit_T (a.bet b).t (a.bet b).h) (a.bet b).x (a.bet b).y (a.imX x y) (a.imY x y) (a.bet b).fixX (a.bet b).fixY
  have k' : dst2 ((a.bet b).imX (a.imX x y) (a.imY x y)) ((a.bet b).imY (a.imX x y) (a.imY x y)) ((a.bet b).imX (a.bet b).fixX (a.bet b).fixY) ((a.bet b).imY (a.bet b).fixX (a.bet b).fixY) = dst2 (a.imX x y) (a.imY x y) (a.bet b).fixX (a.bet b).fixY := k
  rw [f1, f2, ← e1, ← e2] at k'
  exact k'.symm
theorem about_dist (t : Rat) (h : Bool) (x y a b : Rat) : dst2 x y ((Mv.about t h x y).imX a b) ((Mv.about t h x y).imY a b) = dst2 x y a b := by
  obtain ⟨f1, f2⟩ := Mv.about_im t h x y
  have k := dist_keep (unit_T t h) (Mv.about t h x y).x (Mv.about t h x y).y x y a b
  have k' : dst2 ((Mv.about t h x y).imX x y) ((Mv.about t h x y).imY x y) ((Mv.about t h x y).imX a b) ((Mv.about t h x y).imY a b) = dst2 x y a b := k
  rw [f1, f2] at k'
  exact k'
end Lw
