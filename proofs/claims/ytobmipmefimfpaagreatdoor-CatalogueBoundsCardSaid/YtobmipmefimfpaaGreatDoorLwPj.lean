/- The statement about fixed places of displacements, run. No condition. -/
import Derived.Test.YtobmipmefimfpaaGreatDoorLwPi
namespace Lw
open Go Go.RowKit Go.Proofs

variable {G : World → Prop}

def Mv.fit (m : Mv) : Prop := m.h = true → m.t = 0
theorem Mv.next_fit (a b : Mv) : (a.next b).fit := fun h => addT_valid (t := a.t) (h := a.h) (u := b.t) (g := b.h) h
theorem Mv.pow_fit (m : Mv) (n : Nat) : (m.pow n).fit := by
  cases n with
  | zero => exact fun e => by cases e
  | succ n => exact Mv.next_fit _ _
def Mv.imX (m : Mv) (a b : Rat) : Rat := imgX m.t m.h m.x a b
def Mv.imY (m : Mv) (a b : Rat) : Rat := imgY m.t m.h m.y a b
theorem Mv.next_im {a b : Mv} (ha : a.fit) (hb : b.fit) (x y : Rat) : (a.next b).imX x y = b.imX (a.imX x y) (a.imY x y) ∧ (a.next b).imY x y = b.imY (a.imX x y) (a.imY x y) := by
  obtain ⟨e1, e2⟩ := turn_add ha hb
  unfold Mv.imX Mv.imY Mv.next imgX imgY rotX rotY
  simp only [e1, e2]
  generalize cosT a.t a.h = c
  generalize sinT a.t a.h = s
  generalize cosT b.t b.h = c'
  generalize sinT b.t b.h = s'
  constructor
  · grind
  · grind
theorem Mv.none_im (x y : Rat) : Mv.none.imX x y = x ∧ Mv.none.imY x y = y := by
  unfold Mv.imX Mv.imY Mv.none imgX imgY rotX rotY
  simp only [cosT_zero, sinT_zero]
  constructor
  · grind
  · grind
theorem Mv.pow_im {m : Mv} (hm : m.fit) {x y : Rat} (h1 : m.imX x y = x) (h2 : m.imY x y = y) (n : Nat) : (m.pow n).imX x y = x ∧ (m.pow n).imY x y = y := by
  induction n with
  | zero => exact Mv.none_im x y
  | succ n ih =>
    obtain ⟨e1, e2⟩ := Mv.next_im (Mv.pow_fit m n) hm x y
    rw [ih.1, ih.2] at e1 e2
    exact ⟨e1.trans h1, e2.trans h2⟩
theorem FRat_diff (hG : Steady G) {k : Nat} {a b : Rat} (s : SzQ k a) (hk : k ≤ KB) (h : ¬ a = b) : Spec Tryz.prog G 17 [F a, F b] (bool false) := by
  have r := RatF_spec (G := G) (b := b) hG s hk
  rw [decide_eq_false h] at r
  exact r
theorem fix_sz {k : Nat} {t X Y : Rat} (st : SzQ k t) (sX : SzQ k X) (sY : SzQ k Y) (h : Bool) : SzQ (16 * k + 40) (fixX t h X Y) ∧ SzQ (16 * k + 40) (fixY t h X Y) :=
  ⟨((((sz_1.sub (st.cosT h)).mul sX).sub ((st.sinT h).mul sY)).div (sz_2.mul (sz_1.sub (st.cosT h)))).mono (by omega), ((((sz_1.sub (st.cosT h)).mul sY).add ((st.sinT h).mul sX)).div (sz_2.mul (sz_1.sub (st.cosT h)))).mono (by omega)⟩
end Lw
