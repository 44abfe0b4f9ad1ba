/- Ordered fields; a square root is adjoined. No condition. -/
import Derived.Test.YtmcpfihkambgnaaGreatLwNa
namespace Lw
namespace Fld
open Rng

/-- A field with a linear order: pos tells which numbers are above 0. -/
class OFd (K : Type) extends Rng K where
  pos : K → Prop
  pos_add : ∀ {a b : K}, pos a → pos b → pos (a + b)
  pos_mul : ∀ {a b : K}, pos a → pos b → pos (a * b)
  tri : ∀ a : K, pos a ∨ a = 0 ∨ pos (-a)
  pos_zero : ¬ pos (0 : K)
  pos_one : pos (1 : K)
  inv : ∀ a : K, a ≠ 0 → ∃ b, a * b = 1

namespace OFd
variable {K : Type} [OFd K]
theorem pos_anti {a : K} (h : pos a) (h' : pos (-a)) : False := by
  have := pos_add h h'
  rw [add_neg'] at this
  exact pos_zero this
theorem pos_ne {a : K} (h : pos a) : a ≠ 0 := fun e => pos_zero (e ▸ h)
/-- Not below 0. -/
def nn (a : K) : Prop := pos a ∨ a = 0
theorem pos.nn {a : K} (h : pos a) : nn a := .inl h
theorem nn_zero : nn (0 : K) := .inr rfl
theorem nn_add {a b : K} (h : nn a) (h' : nn b) : nn (a + b) := by
  rcases h with h | rfl
  · rcases h' with h' | rfl
    · exact .inl (pos_add h h')
    · rw [add_zero']; exact .inl h
  · rw [zero_add']; exact h'
theorem pos_nn {a b : K} (h : pos a) (h' : nn b) : pos (a + b) := by
  rcases h' with h' | rfl
  · exact pos_add h h'
  · rw [add_zero']; exact h
theorem nn_pos {a b : K} (h : nn a) (h' : pos b) : pos (a + b) := by rw [add_comm']; exact pos_nn h' h
theorem nn_mul {a b : K} (h : nn a) (h' : nn b) : nn (a * b) := by
  rcases h with h | rfl
  · rcases h' with h' | rfl
    · exact .inl (pos_mul h h')
    · exact .inr (mul_zero' a)
  · exact .inr (zero_mul' b)
theorem neg_neg_mul {a b : K} (h : pos (-a)) (h' : pos (-b)) : pos (a * b) := by
  have := pos_mul h h'
  rwa [show -a * -b = a * b from rg [a, b] (by kernel_rfl)] at this
theorem neg_pos_mul {a b : K} (h : pos (-a)) (h' : pos b) : pos (-(a * b)) := by
  have := pos_mul h h'
  rwa [neg_mul'] at this
theorem pos_neg_mul {a b : K} (h : pos a) (h' : pos (-b)) : pos (-(a * b)) := by
  rw [mul_comm']; exact neg_pos_mul h' h
theorem sq_nn (a : K) : nn (a * a) := by
  rcases tri a with h | rfl | h
  · exact .inl (pos_mul h h)
  · exact .inr (mul_zero' 0)
  · exact .inl (neg_neg_mul h h)
theorem sq_pos {a : K} (h : a ≠ 0) : pos (a * a) := by
  rcases tri a with h' | rfl | h'
  · exact pos_mul h' h'
  · exact absurd rfl h
  · exact neg_neg_mul h' h'
theorem nn_not {a : K} (h : nn a) (h' : pos (-a)) : False := by
  rcases h with h | rfl
  · exact pos_anti h h'
  · rw [neg_zero'] at h'; exact pos_zero h'
theorem not_pos {a : K} (h : ¬ pos a) : nn (-a) := by
  rcases tri a with g | rfl | g
  · exact absurd g h
  · exact .inr neg_zero'
  · exact .inl g
theorem not_neg {a : K} (h : ¬ pos (-a)) : nn a := by
  rcases tri a with g | rfl | g
  · exact .inl g
  · exact .inr rfl
  · exact absurd g h
theorem nn_anti {a : K} (h : nn a) (h' : nn (-a)) : a = 0 := by
  rcases h with h | h
  · rcases h' with h' | h'
    · exact absurd h' (fun g => pos_anti h g)
    · have := neg_neg' a; rw [h', neg_zero'] at this; exact this.symm
  · exact h
theorem mul_eq_zero {a b : K} (h : a * b = 0) : a = 0 ∨ b = 0 := by
  by_cases ha : a = 0
  · exact .inl ha
  · obtain ⟨c, hc⟩ := inv a ha
    right
    have e : b = c * (a * b) := rg1 [a, b, c] (-b) hc (by kernel_rfl)
    rw [e, h, mul_zero']
theorem mul_ne {a b : K} (h : a ≠ 0) (h' : b ≠ 0) : a * b ≠ 0 := fun e => (mul_eq_zero e).elim h h'
theorem sq_eq_zero {a : K} (h : a * a = 0) : a = 0 := (mul_eq_zero h).elim id id
theorem pos_of_mul {a b : K} (h : pos (a * b)) (h' : pos a) : pos b := by
  rcases tri b with g | rfl | g
  · exact g
  · rw [mul_zero'] at h; exact absurd h pos_zero
  · exact absurd (pos_neg_mul h' g) (fun g => pos_anti h g)
theorem nn_of_mul {a b : K} (h : nn (a * b)) (h' : pos a) : nn b := by
  rcases h with h | h
  · exact .inl (pos_of_mul h h')
  · exact .inr ((mul_eq_zero h).resolve_left (pos_ne h'))
theorem inv_pos {a b : K} (h : pos a) (e : a * b = 1) : pos b := pos_of_mul (by rw [e]; exact pos_one) h
theorem of_eq {a b : K} (h : pos a) (e : b = a) : pos b := e ▸ h
theorem nn_eq {a b : K} (h : nn a) (e : b = a) : nn b := e ▸ h

/-- p dominates q: the sum has the sign of p. -/
theorem dom_pos {p q : K} (h : pos (p * p - q * q)) (hp : pos p) : pos (p + q) := by
  rcases tri (p + q) with g | g | g
  · exact g
  · exfalso
    have e : p * p - q * q = (p + q) * (p - q) := rg [p, q] (by kernel_rfl)
    rw [e, g, zero_mul'] at h
    exact pos_zero h
  · exfalso
    -- q is below -p; then p - q is above 0 and the product is below
    have h2 : pos (p - q) := of_eq (pos_add (pos_add hp hp) g) (rg [p, q] (by kernel_rfl))
    have h3 := neg_pos_mul g h2
    exact pos_anti h (of_eq h3 (rg [p, q] (by kernel_rfl)))
theorem dom_neg {p q : K} (h : pos (p * p - q * q)) (hp : pos (-p)) : pos (-(p + q)) := by
  have := dom_pos (p := -p) (q := -q) (of_eq h (rg [p, q] (by kernel_rfl))) hp
  exact of_eq this (rg [p, q] (by kernel_rfl))

open Classical in
/-- The sign. -/
noncomputable def sg (a : K) : Int := if pos a then 1 else if a = 0 then 0 else -1
theorem sg_pos {a : K} (h : pos a) : sg a = 1 := if_pos h
theorem sg_zero : sg (0 : K) = 0 := by unfold sg; rw [if_neg pos_zero, if_pos rfl]
theorem sg_neg {a : K} (h : pos (-a)) : sg a = -1 := by
  unfold sg
  rw [if_neg (fun g => pos_anti g h), if_neg (fun e => by rw [e, neg_zero'] at h; exact pos_zero h)]
theorem sg_cases (a : K) : (pos a ∧ sg a = 1) ∨ (a = 0 ∧ sg a = 0) ∨ (pos (-a) ∧ sg a = -1) := by
  rcases tri a with h | h | h
  · exact .inl ⟨h, sg_pos h⟩
  · exact .inr (.inl ⟨h, by rw [h]; exact sg_zero⟩)
  · exact .inr (.inr ⟨h, sg_neg h⟩)
theorem sg_neg_eq (a : K) : sg (-a) = -sg a := by
  rcases sg_cases a with ⟨h, e⟩ | ⟨h, e⟩ | ⟨h, e⟩
  · rw [e]; exact sg_neg (by rw [neg_neg']; exact h)
  · rw [h, neg_zero', sg_zero]; rfl
  · rw [e]; exact sg_pos h
theorem sg_mul (a b : K) : sg (a * b) = sg a * sg b := by
  rcases sg_cases a with ⟨h, e⟩ | ⟨h, e⟩ | ⟨h, e⟩
  · rcases sg_cases b with ⟨h', e'⟩ | ⟨h', e'⟩ | ⟨h', e'⟩
    · rw [e, e', sg_pos (pos_mul h h')]; rfl
    · rw [e', h', mul_zero', sg_zero]; simp
    · rw [e, e', sg_neg (pos_neg_mul h h')]; rfl
  · rw [e, h, zero_mul', sg_zero]; simp
  · rcases sg_cases b with ⟨h', e'⟩ | ⟨h', e'⟩ | ⟨h', e'⟩
    · rw [e, e', sg_neg (neg_pos_mul h h')]; rfl
    · rw [e', h', mul_zero', sg_zero]; simp
    · rw [e, e', sg_pos (neg_neg_mul h h')]; rfl
theorem sg_eq_one {a : K} : sg a = 1 ↔ pos a := by
  rcases sg_cases a with ⟨h, e⟩ | ⟨h, e⟩ | ⟨h, e⟩
  · exact ⟨fun _ => h, fun _ => e⟩
  · exact ⟨fun g => (by rw [e] at g; cases g), fun g => absurd h (pos_ne g)⟩
  · exact ⟨fun g => (by rw [e] at g; cases g), fun g => absurd h (fun h => pos_anti g h)⟩
theorem sg_eq_zero {a : K} : sg a = 0 ↔ a = 0 := by
  rcases sg_cases a with ⟨h, e⟩ | ⟨h, e⟩ | ⟨h, e⟩
  · exact ⟨fun g => (by rw [e] at g; cases g), fun g => absurd g (pos_ne h)⟩
  · exact ⟨fun _ => h, fun _ => e⟩
  · exact ⟨fun g => (by rw [e] at g; cases g), fun g => by rw [g, neg_zero'] at h; exact absurd h pos_zero⟩
theorem sg_nn {a : K} : 0 ≤ sg a ↔ nn a := by
  rcases sg_cases a with ⟨h, e⟩ | ⟨h, e⟩ | ⟨h, e⟩
  · exact ⟨fun _ => .inl h, fun _ => by rw [e]; decide⟩
  · exact ⟨fun _ => .inr h, fun _ => by rw [e]; decide⟩
  · exact ⟨fun g => (by rw [e] at g; exact absurd g (by decide)), fun g => absurd h (fun h => nn_not g h)⟩
theorem sg_lt {a : K} : sg a < 0 ↔ pos (-a) := by
  rcases sg_cases a with ⟨h, e⟩ | ⟨h, e⟩ | ⟨h, e⟩
  · exact ⟨fun g => (by rw [e] at g; exact absurd g (by decide)), fun g => absurd g (fun g => pos_anti h g)⟩
  · exact ⟨fun g => (by rw [e] at g; exact absurd g (by decide)), fun g => by rw [h, neg_zero'] at g; exact absurd g pos_zero⟩
  · exact ⟨fun _ => h, fun _ => by rw [e]; decide⟩
end OFd
open OFd

/-- Pairs: x + y s with s * s = D. -/
structure Pr (K : Type) (D : K) where
  x : K
  y : K
namespace Pr
variable {K : Type} [OFd K] {D : K}
omit [OFd K] in
theorem ext' {a b : Pr K D} (h : a.x = b.x) (h' : a.y = b.y) : a = b := by
  cases a; cases b; simp_all
instance : Rng (Pr K D) where
  add a b := ⟨a.x + b.x, a.y + b.y⟩
  mul a b := ⟨a.x * b.x + a.y * b.y * D, a.x * b.y + a.y * b.x⟩
  neg a := ⟨-a.x, -a.y⟩
  sub a b := ⟨a.x - b.x, a.y - b.y⟩
  zero := ⟨0, 0⟩
  one := ⟨1, 0⟩
  add_assoc' a b c := ext' (add_assoc' _ _ _) (add_assoc' _ _ _)
  add_comm' a b := ext' (add_comm' _ _) (add_comm' _ _)
  add_zero' a := ext' (add_zero' _) (add_zero' _)
  neg_add' a := ext' (neg_add' _) (neg_add' _)
  mul_assoc' a b c := ext'
    (show (a.x * b.x + a.y * b.y * D) * c.x + (a.x * b.y + a.y * b.x) * c.y * D = a.x * (b.x * c.x + b.y * c.y * D) + a.y * (b.x * c.y + b.y * c.x) * D from rg [a.x, a.y, b.x, b.y, c.x, c.y, D] (by kernel_rfl))
    (show (a.x * b.x + a.y * b.y * D) * c.y + (a.x * b.y + a.y * b.x) * c.x = a.x * (b.x * c.y + b.y * c.x) + a.y * (b.x * c.x + b.y * c.y * D) from rg [a.x, a.y, b.x, b.y, c.x, c.y, D] (by kernel_rfl))
  mul_comm' a b := ext' (show a.x * b.x + a.y * b.y * D = b.x * a.x + b.y * a.y * D from rg [a.x, a.y, b.x, b.y, D] (by kernel_rfl)) (show a.x * b.y + a.y * b.x = b.x * a.y + b.y * a.x from rg [a.x, a.y, b.x, b.y] (by kernel_rfl))
  mul_one' a := ext' (show a.x * 1 + a.y * 0 * D = a.x from rg [a.x, a.y, D] (by kernel_rfl)) (show a.x * 0 + a.y * 1 = a.y from rg [a.x, a.y] (by kernel_rfl))
  distrib' a b c := ext' (show a.x * (b.x + c.x) + a.y * (b.y + c.y) * D = (a.x * b.x + a.y * b.y * D) + (a.x * c.x + a.y * c.y * D) from rg [a.x, a.y, b.x, b.y, c.x, c.y, D] (by kernel_rfl))
    (show a.x * (b.y + c.y) + a.y * (b.x + c.x) = (a.x * b.y + a.y * b.x) + (a.x * c.y + a.y * c.x) from rg [a.x, a.y, b.x, b.y, c.x, c.y] (by kernel_rfl))
  sub_def' a b := ext' (sub_def' _ _) (sub_def' _ _)
/-- The norm. -/
def N (a : Pr K D) : K := a.x * a.x - a.y * a.y * D
theorem N_mul (a b : Pr K D) : (a * b).N = a.N * b.N := by
  show (a.x * b.x + a.y * b.y * D) * (a.x * b.x + a.y * b.y * D) - (a.x * b.y + a.y * b.x) * (a.x * b.y + a.y * b.x) * D = (a.x * a.x - a.y * a.y * D) * (b.x * b.x - b.y * b.y * D)
  exact rg [a.x, a.y, b.x, b.y, D] (by kernel_rfl)
/-- No number has the square D. -/
def Odd (D : K) : Prop := nn D ∧ ∀ z : K, z * z ≠ D
theorem Odd.pos (h : Odd D) : OFd.pos D := by
  rcases h.1 with g | g
  · exact g
  · exact absurd (by rw [g, mul_zero']) (h.2 0)
theorem N_ne (h : Odd D) {a : Pr K D} (ha : a.x ≠ 0 ∨ a.y ≠ 0) : a.N ≠ 0 := by
  intro e
  have e' : a.x * a.x - a.y * a.y * D = 0 := e
  by_cases hy : a.y = 0
  · rw [hy] at e'
    have : a.x * a.x = 0 := by rw [← e']; exact rg [a.x, D] (by kernel_rfl)
    rcases ha with g | g
    · exact g (sq_eq_zero this)
    · exact g hy
  · obtain ⟨c, hc⟩ := inv a.y hy
    refine h.2 (a.x * c) ?_
    -- x c x c = y y D c c = D
    have e1 : a.x * a.x = a.y * a.y * D := sub_zero_iff.1 e'
    have e2 : a.x * c * (a.x * c) = (a.y * c) * (a.y * c) * D := rg1 [a.x, a.y, c, D] (c * c) e1 (by kernel_rfl)
    rw [e2, hc]; exact rg [D] (by kernel_rfl)
theorem N_zero (h : Odd D) {a : Pr K D} (e : a.N = 0) : a = 0 := by
  by_cases hx : a.x = 0
  · by_cases hy : a.y = 0
    · exact ext' hx hy
    · exact absurd e (N_ne h (.inr hy))
  · exact absurd e (N_ne h (.inl hx))
/-- Above 0. -/
def Up (a : Pr K D) : Prop := (OFd.pos a.N ∧ OFd.pos a.x) ∨ (OFd.pos (-a.N) ∧ OFd.pos a.y)
theorem up_one : Up (1 : Pr K D) := .inl ⟨by
  show OFd.pos ((1 : K) * 1 - 0 * 0 * D)
  exact of_eq pos_one (rg [D] (by kernel_rfl)), pos_one⟩
theorem up_mul (h : Odd D) {a b : Pr K D} (ha : Up a) (hb : Up b) : Up (a * b) := by
  have hD := h.pos
  unfold Up at *
  rw [N_mul]
  show (OFd.pos (a.N * b.N) ∧ OFd.pos (a.x * b.x + a.y * b.y * D)) ∨ (OFd.pos (-(a.N * b.N)) ∧ OFd.pos (a.x * b.y + a.y * b.x))
  have ea : a.N = a.x * a.x - a.y * a.y * D := rfl
  have eb : b.N = b.x * b.x - b.y * b.y * D := rfl
  generalize a.N = A at *
  generalize b.N = B at *
  rcases ha with ⟨h1, h2⟩ | ⟨h1, h2⟩ <;> rcases hb with ⟨h3, h4⟩ | ⟨h3, h4⟩
  · refine .inl ⟨pos_mul h1 h3, dom_pos ?_ (pos_mul h2 h4)⟩
    have g1 := pos_mul (pos_mul h2 h2) h3
    have g2 := nn_mul (nn_mul (sq_nn b.y) (.inl hD)) (.inl h1)
    refine of_eq (pos_nn g1 g2) ?_
    rw [ea, eb]; exact rg [a.x, a.y, b.x, b.y, D] (by kernel_rfl)
  · refine .inr ⟨pos_neg_mul h1 h3, dom_pos ?_ (pos_mul h2 h4)⟩
    have g1 := pos_mul h1 (pos_mul h4 h4)
    have g2 := nn_mul (.inl h3) (sq_nn a.y)
    refine of_eq (pos_nn g1 g2) ?_
    rw [ea, eb]; exact rg [a.x, a.y, b.x, b.y, D] (by kernel_rfl)
  · refine .inr ⟨neg_pos_mul h1 h3, ?_⟩
    rw [add_comm']
    refine dom_pos ?_ (pos_mul h2 h4)
    have g1 := pos_mul h3 (pos_mul h2 h2)
    have g2 := nn_mul (.inl h1) (sq_nn b.y)
    refine of_eq (pos_nn g1 g2) ?_
    rw [ea, eb]; exact rg [a.x, a.y, b.x, b.y, D] (by kernel_rfl)
  · refine .inl ⟨neg_neg_mul h1 h3, ?_⟩
    rw [add_comm']
    refine dom_pos ?_ (pos_mul (pos_mul h2 h4) hD)
    have g1 := pos_mul h1 (pos_mul (pos_mul h4 h4) hD)
    have g2 := nn_mul (.inl h3) (sq_nn a.x)
    refine of_eq (pos_nn g1 g2) ?_
    rw [ea, eb]; exact rg [a.x, a.y, b.x, b.y, D] (by kernel_rfl)
theorem up_succ (h : Odd D) {a : Pr K D} (ha : Up a) : Up (a + 1) := by
  have ea : a.N = a.x * a.x - a.y * a.y * D := rfl
  have e : (a + 1).N = a.N + (a.x + (a.x + 1)) := by
    rw [ea]
    show (a.x + 1) * (a.x + 1) - (a.y + 0) * (a.y + 0) * D = _
    exact rg [a.x, a.y, D] (by kernel_rfl)
  have e1 : (a + 1).x = a.x + 1 := rfl
  have e2 : (a + 1).y = a.y := add_zero' _
  have hne : (a + 1).N ≠ 0 := by
    refine N_ne h ?_
    rw [e1, e2]
    rcases ha with ⟨_, g⟩ | ⟨_, g⟩
    · exact .inl (pos_ne (pos_add g pos_one))
    · exact .inr (pos_ne g)
  unfold Up at *
  rw [e] at hne ⊢
  rw [e1, e2]
  generalize a.N = A at *
  rcases ha with ⟨h2, h3⟩ | ⟨h2, h3⟩
  · exact .inl ⟨pos_add h2 (pos_add h3 (pos_add h3 pos_one)), pos_add h3 pos_one⟩
  · rcases tri (A + (a.x + (a.x + 1))) with g | g | g
    · refine .inl ⟨g, ?_⟩
      rcases tri (a.x + 1) with g2 | g2 | g2
      · exact g2
      · -- then x = -1 and A - 1 is above 0 although A is below
        exfalso
        have : pos (1 : K) := pos_one
        have e3 : A + (a.x + (a.x + 1)) + (-A) + 1 = 0 := by
          have : A + (a.x + (a.x + 1)) + (-A) + 1 = (a.x + 1) + (a.x + 1) := rg [A, a.x] (by kernel_rfl)
          rw [this, g2, add_zero']
        exact pos_ne (pos_add (pos_add g h2) pos_one) e3
      · exfalso
        have e3 : A + (a.x + (a.x + 1)) + (-A) + (-(a.x + 1)) + (-(a.x + 1)) + 1 = 0 := rg [A, a.x] (by kernel_rfl)
        exact pos_ne (pos_add (pos_add (pos_add (pos_add g h2) g2) g2) pos_one) e3
    · exact absurd g hne
    · exact .inr ⟨g, h3⟩
theorem neg_N (a : Pr K D) : (-a).N = a.N := by
  show -a.x * -a.x - -a.y * -a.y * D = a.x * a.x - a.y * a.y * D
  exact rg [a.x, a.y, D] (by kernel_rfl)
theorem up_or (h : Odd D) (a : Pr K D) : Up a ∨ a = 0 ∨ Up (-a) := by
  by_cases ha : a = 0
  · exact .inr (.inl ha)
  · have hn : a.N ≠ 0 := fun e => ha (N_zero h e)
    have ea : a.N = a.x * a.x - a.y * a.y * D := rfl
    have hD := h.pos
    unfold Up
    rw [neg_N]
    show _ ∨ _ ∨ (OFd.pos a.N ∧ OFd.pos (-a.x)) ∨ (OFd.pos (-a.N) ∧ OFd.pos (-a.y))
    rcases tri a.N with g | g | g
    · rcases tri a.x with g2 | g2 | g2
      · exact .inl (.inl ⟨g, g2⟩)
      · exfalso
        have h1 := nn_mul (sq_nn a.y) (.inl hD)
        have e3 : a.x * a.x - a.y * a.y * D + a.y * a.y * D = 0 := by
          rw [g2]; exact rg [a.y, D] (by kernel_rfl)
        rw [ea] at g
        exact pos_ne (pos_nn g h1) e3
      · exact .inr (.inr (.inl ⟨g, g2⟩))
    · exact absurd g hn
    · rcases tri a.y with g2 | g2 | g2
      · exact .inl (.inr ⟨g, g2⟩)
      · exfalso
        have h1 := sq_nn a.x
        have e3 : -(a.x * a.x - a.y * a.y * D) + a.x * a.x = 0 := by
          rw [g2]; exact rg [a.x, D] (by kernel_rfl)
        rw [ea] at g
        exact pos_ne (pos_nn g h1) e3
      · exact .inr (.inr (.inr ⟨g, g2⟩))
theorem not_up_zero : ¬ Up (0 : Pr K D) := by
  rintro (⟨_, h⟩ | ⟨_, h⟩)
  · exact pos_zero (show OFd.pos (0 : K) from h)
  · exact pos_zero (show OFd.pos (0 : K) from h)
theorem up_neg {a : Pr K D} (h : Up a) (h' : Up (-a)) : False := by
  unfold Up at h h'
  rw [neg_N] at h'
  rcases h with ⟨h1, h2⟩ | ⟨h1, h2⟩ <;> rcases h' with ⟨h3, h4⟩ | ⟨h3, h4⟩
  · exact pos_anti h2 h4
  · exact pos_anti h1 h3
  · exact pos_anti h3 h1
  · exact pos_anti h2 h4
theorem has_inv (h : Odd D) (a : Pr K D) (ha : a ≠ 0) : ∃ b : Pr K D, a * b = 1 := by
  have hn : a.N ≠ 0 := fun e => ha (N_zero h e)
  obtain ⟨c, hc⟩ := inv a.N hn
  have hc' : (a.x * a.x - a.y * a.y * D) * c = 1 := hc
  refine ⟨⟨a.x * c, -a.y * c⟩, ext' ?_ ?_⟩
  · show a.x * (a.x * c) + a.y * (-a.y * c) * D = 1
    rw [← hc']; exact rg [a.x, a.y, c, D] (by kernel_rfl)
  · show a.x * (-a.y * c) + a.y * (a.x * c) = 0
    exact rg [a.x, a.y, c] (by kernel_rfl)
theorem up_add (h : Odd D) {a b : Pr K D} (ha : Up a) (hb : Up b) : Up (a + b) := by
  have hb0 : b ≠ 0 := fun e => not_up_zero (e ▸ hb)
  obtain ⟨c, hc⟩ := has_inv h b hb0
  have hi : Up c := by
    rcases up_or h c with g | g | g
    · exact g
    · exfalso
      rw [g, mul_zero'] at hc
      exact not_up_zero (D := D) (hc ▸ up_one)
    · exfalso
      have := up_mul h hb g
      have e : b * -c = -(1 : Pr K D) := by rw [← hc]; exact rg [b, c] (by kernel_rfl)
      rw [e] at this
      exact up_neg up_one this
  have h2 := up_mul h (up_succ h (up_mul h ha hi)) hb
  have e : (a * c + 1) * b = a + b := rg1 [a, b, c] a hc (by kernel_rfl)
  rw [e] at h2; exact h2
/-- The pairs are an ordered field. -/
@[reducible] def fld (h : Odd D) : OFd (Pr K D) where
  pos := Up
  pos_add := up_add h
  pos_mul := up_mul h
  tri := up_or h
  pos_zero := not_up_zero
  pos_one := up_one
  inv := has_inv h
end Pr

/-- The fractions. -/
instance : OFd Rat where
  add_assoc' := Rat.add_assoc
  add_comm' := Rat.add_comm
  add_zero' := Rat.add_zero
  neg_add' a := by grind
  mul_assoc' := Rat.mul_assoc
  mul_comm' := Rat.mul_comm
  mul_one' := Rat.mul_one
  distrib' := Rat.mul_add
  sub_def' := Rat.sub_eq_add_neg
  pos a := 0 < a
  pos_add := by intro a b h h'; grind
  pos_mul := by intro a b h h'; exact Rat.mul_pos h h'
  tri a := by grind
  pos_zero := by grind
  pos_one := by decide
  inv a h := ⟨a⁻¹, Rat.mul_inv_cancel a h⟩

/-- What keeps sums, products and the order. -/
structure Hom (K K' : Type) [OFd K] [OFd K'] where
  φ : K → K'
  add : ∀ a b, φ (a + b) = φ a + φ b
  mul : ∀ a b, φ (a * b) = φ a * φ b
  pos : ∀ a, OFd.pos a → OFd.pos (φ a)
namespace Hom
section
variable {K K' : Type} [OFd K] [OFd K'] (f : Hom K K')
theorem zero : f.φ 0 = 0 := by
  have := f.add 0 0
  rw [add_zero'] at this
  have e : f.φ 0 + f.φ 0 = f.φ 0 + 0 := by rw [add_zero', ← this]
  exact cancel e
theorem neg (a : K) : f.φ (-a) = -f.φ a := by
  have := f.add a (-a)
  rw [add_neg', f.zero] at this
  exact neg_unique this.symm
theorem sub (a b : K) : f.φ (a - b) = f.φ a - f.φ b := by rw [sub_def', f.add, f.neg, ← sub_def']
theorem one : f.φ 1 = 1 := by
  have h := f.mul 1 1
  rw [mul_one'] at h
  have hp := pos_ne (f.pos 1 pos_one)
  have e : f.φ 1 * (f.φ 1 - 1) = 0 := by
    have : f.φ 1 * (f.φ 1 - 1) = f.φ 1 * f.φ 1 - f.φ 1 := rg [f.φ 1] (by kernel_rfl)
    rw [this, ← h, sub_def', add_neg']
  exact sub_zero_iff.1 ((mul_eq_zero e).resolve_left hp)
theorem sgn (a : K) : sg (f.φ a) = sg a := by
  rcases sg_cases a with ⟨h, e⟩ | ⟨h, e⟩ | ⟨h, e⟩
  · rw [e, sg_pos (f.pos a h)]
  · rw [h, f.zero, sg_zero, sg_zero]
  · rw [e, sg_neg (by rw [← f.neg]; exact f.pos _ h)]
end
def id (K : Type) [OFd K] : Hom K K := ⟨fun a => a, fun _ _ => rfl, fun _ _ => rfl, fun _ h => h⟩
def comp {K K' K'' : Type} [OFd K] [OFd K'] [OFd K''] (g : Hom K' K'') (f : Hom K K') : Hom K K'' :=
  ⟨fun a => g.φ (f.φ a), fun a b => by rw [f.add, g.add], fun a b => by rw [f.mul, g.mul], fun a h => g.pos _ (f.pos _ h)⟩
end Hom

/-- A number that is not below 0 has a root in a greater field. -/
theorem adjoin (K : Type) [OFd K] (D : K) (h0 : nn D) : ∃ (K' : Type) (_ : OFd K') (f : Hom K K') (s : K'), nn s ∧ s * s = f.φ D := by
  by_cases h : ∃ z : K, z * z = D
  · obtain ⟨z, hz⟩ := h
    by_cases hs : nn z
    · exact ⟨K, inferInstance, Hom.id K, z, hs, hz⟩
    · refine ⟨K, inferInstance, Hom.id K, -z, ?_, ?_⟩
      · rcases tri z with g | g | g
        · exact absurd (.inl g) hs
        · exact absurd (.inr g) hs
        · exact .inl g
      · show -z * -z = D
        rw [← hz]; exact rg [z] (by kernel_rfl)
  · have ho : Pr.Odd D := ⟨h0, fun z e => h ⟨z, e⟩⟩
    refine ⟨Pr K D, Pr.fld ho, @Hom.mk K (Pr K D) _ (Pr.fld ho) (fun a => ⟨a, 0⟩) (fun a b => ?_) (fun a b => ?_) (fun a ha => ?_), ⟨0, 1⟩, ?_, ?_⟩
    · exact Pr.ext' rfl (show (0 : K) = 0 + 0 from (add_zero' 0).symm)
    · exact Pr.ext' (show a * b = a * b + 0 * 0 * D from rg [a, b, D] (by kernel_rfl)) (show (0 : K) = a * 0 + 0 * b from rg [a, b] (by kernel_rfl))
    · refine .inl ⟨?_, ha⟩
      show pos (a * a - 0 * 0 * D)
      exact of_eq (pos_mul ha ha) (rg [a, D] (by kernel_rfl))
    · left
      refine .inr ⟨?_, pos_one⟩
      show pos (-((0 : K) * 0 - 1 * 1 * D))
      exact of_eq ho.pos (rg [D] (by kernel_rfl))
    · exact Pr.ext' (show (0 : K) * 0 + 1 * 1 * D = D from rg [D] (by kernel_rfl)) (show (0 : K) * 1 + 1 * 0 = 0 from rg [(0 : K)] (by kernel_rfl))
end Fld
end Lw
