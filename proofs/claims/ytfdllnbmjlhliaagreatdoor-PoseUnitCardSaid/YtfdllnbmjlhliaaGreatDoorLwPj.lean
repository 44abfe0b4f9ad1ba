/- The statement about fixed places of displacements, run. No condition. -/
import Derived.Test.YtfdllnbmjlhliaaGreatDoorLwPi
namespace Lw
open Go Go.RowKit Go.Proofs

variable {G : World → Prop}

def Mv.fit (m : Mv) : Prop := m.h = true → m.t = 0
theorem Mv.next_fit (a b : Mv) : (a.next b).fit := fun h => addT_valid (t := a.t) (h := a.h) (u := b.t) (g := b.h) h
theorem Mv.pow_fit (m : Mv) (n : Nat) : (m.pow n).fit := by
  cases n with
  | zero => exact fun e => by cases e
  | succ n => exact Mv.next_fit _ _
def Mv.imX (m : Mv) (a b : Rat) : Rat := imgX m.t m.h m.x a b
def Mv.imY (m : Mv) (a b : Rat) : Rat := imgY m.t m.h m.y a b
theorem Mv.next_im {a b : Mv} (ha : a.fit) (hb : b.fit) (x y : Rat) : (a.next b).imX x y = b.imX (a.imX x y) (a.imY x y) ∧ (a.next b).imY x y = b.imY (a.imX x y) (a.imY x y) := by
  obtain ⟨e1, e2⟩ := turn_add ha hb
  unfold Mv.imX Mv.imY Mv.next imgX imgY rotX rotY
  simp only [e1, e2]
  generalize cosT a.t a.h = c
  generalize sinT a.t a.h = s
  generalize cosT b.t b.h = c'
  generalize sinT b.t b.h = s'
  constructor
  · grind
  · grind
theorem Mv.none_im (x y : Rat) : Mv.none.imX x y = x ∧ Mv.none.imY x y = y := by
  unfold Mv.imX Mv.imY Mv.none imgX imgY rotX rotY
  simp only [cosT_zero, sinT_zero]
  constructor
  · grind
  · grind
theorem Mv.pow_im {m : Mv} (hm : m.fit) {x y : Rat} (h1 : m.imX x y = x) (h2 : m.imY x y = y) (n : Nat) : (m.pow n).imX x y = x ∧ (m.pow n).imY x y = y := by
  induction n with
  | zero => exact Mv.none_im x y
  | succ n ih =>
    obtain ⟨e1, e2⟩ := Mv.next_im (Mv.pow_fit m n) hm x y
    rw [ih.1, ih.2] at e1 e2
    exact ⟨e1.trans h1, e2.trans h2⟩
theorem FRat_diff (hG : Steady G) {k : Nat} {a b : Rat} (s : SzQ k a) (hk : k ≤ KB) (h : ¬ a = b) : Spec Tryz.prog G 20 [F a, F b] (bool false) := by
  have r := RatF_spec (G := G) (b := b) hG s hk
  rw [decide_eq_false h] at r
  exact r
theorem place_diff (hG : Steady G) {k : Nat} {a b x y : Rat} (s : SzQ k a) (s' : SzQ k b) (hk : k ≤ KB) (h : ¬ (a = x ∧ b = y)) : Spec Tryz.prog G 23 [FPl a b, FPl x y] (bool false) := by
  by_cases h1 : a = x
  · subst h1
    exact Spec.of_run hG Tryz.func23 (ro := [2, 3]) (m := 60) [.call (FRat_same hG s hk), .call (FRat_diff hG s' hk (fun e => h ⟨rfl, e⟩))] (by kernel_rfl)
  · exact Spec.of_run hG Tryz.func23 (ro := [2, 3]) (m := 60) [.call (FRat_diff hG s hk h1)] (by kernel_rfl)
theorem fix_sz {k : Nat} {t X Y : Rat} (st : SzQ k t) (sX : SzQ k X) (sY : SzQ k Y) (h : Bool) : SzQ (16 * k + 40) (fixX t h X Y) ∧ SzQ (16 * k + 40) (fixY t h X Y) :=
  ⟨((((sz_1.sub (st.cosT h)).mul sX).sub ((st.sinT h).mul sY)).div (sz_2.mul (sz_1.sub (st.cosT h)))).mono (by omega), ((((sz_1.sub (st.cosT h)).mul sY).add ((st.sinT h).mul sX)).div (sz_2.mul (sz_1.sub (st.cosT h)))).mono (by omega)⟩
theorem Fixed_valid (hG : Steady G) {m : Mv} {a b : Rat} (hm : m.ok 2) (sa : SzQ 2 a) (sb : SzQ 2 b) (h1 : m.raw.short) (h2 : (RPl.mk (rawOf a) (rawOf b)).short) (n : Nat) :
    Spec Tryz.prog G 5 [m.raw.dat, FPl a b, .lit (.int .u8 (Int.ofNat n))] (bool true) := by
  have kb := KB_eq
  have aw := awake17_spec (G := G) hG
  have sh := (Short1 (G := G) hG m.raw).1 h1
  have sp := (ShortPl1 (G := G) hG ⟨rawOf a, rawOf b⟩).1 h2
  have pv := PValidM (G := G) hG hm (by omega)
  have rp := PRPlace_spec (G := G) hG (r := ⟨rawOf a, rawOf b⟩) ⟨sa.ok, sb.ok⟩ (k := 2) (by omega)
  rw [FPl_valid] at rp
  have i8 := Is_err (G := G) hG 8 8
  have sg := FSign_spec (G := G) hG hm.1.isQ (by omega)
  by_cases hs : m.h = false ∧ m.t = 0
  · obtain ⟨t, h, X, Y⟩ := m
    obtain ⟨e1, e2⟩ := hs
    have e1 : h = false := e1
    have e2 : t = 0 := e2
    subst e1 e2
    have fx := PFixed_still (G := G) hG hm.2.1 hm.2.2.1 (by omega)
    rw [sgn_zero.2 rfl] at sg
    exact Spec.of_run hG Tryz.func5 (ro := [3, 4]) (m := 60) [.call aw, .call sh, .call sp, .call pv, .call rp, .call fx, .call i8, .call sg] (by kernel_rfl)
  · obtain ⟨st, sX, sY, vt⟩ := id hm
    have fx := PFixed_ok (G := G) hG st sX sY vt hs (by omega)
    obtain ⟨f1, f2⟩ := fix_sz st sX sY m.h
    obtain ⟨x1, x2⟩ := fix_fixed hs m.x m.y
    have only : ∀ x y, m.imX x y = x → m.imY x y = y → x = fixX m.t m.h m.x m.y ∧ y = fixY m.t m.h m.x m.y := fun x y g1 g2 => fix_only hs g1 g2
    generalize fixX m.t m.h m.x m.y = u at *
    generalize fixY m.t m.h m.x m.y = v at *
    have g1 : imgX m.t m.h m.x u v = u := x1
    have g2 : imgY m.t m.h m.y u v = v := x2
    have ap1 := PApply_ok (G := G) hG st sX sY vt f1 f2 (by omega)
    rw [g1, g2] at ap1
    have h60 : (2:Nat) ^ 60 = 1152921504606846976 := by decide
    have e73 : D.lit (.int .u8 ((Int.ofNat n).tmod 5)) = .lit (.int .u8 (Int.ofNat (n % 5))) := rfl
    have e74 : IntKind.wrap .i64 (Int.ofNat (n % 5)) = Int.ofNat (n % 5) := convS (by omega)
    have pw := PPow_ok (G := G) hG hm (n := n % 5) (by omega)
    obtain ⟨q1, q2⟩ := Mv.pow_im vt g1 g2 (n % 5)
    have okp : (m.pow (n % 5)).ok (56 * 2 ^ 4) := (Mv.pow_ok hm (n % 5)).mono (by
      have := Nat.pow_le_pow_right (n := 2) (i := n % 5) (j := 4) (by omega) (by omega)
      omega)
    have h4 : 56 * 2 ^ 4 = 896 := by decide
    rw [h4] at okp
    generalize m.pow (n % 5) = w at *
    have ap2 := PApply_ok (G := G) hG okp.1 okp.2.1 okp.2.2.1 okp.2.2.2 f1 f2 (by omega)
    have q1' : imgX w.t w.h w.x u v = u := q1
    have q2' : imgY w.t w.h w.y u v = v := q2
    rw [q1', q2'] at ap2
    have ap3 := PApply_ok (G := G) hG st sX sY vt sa sb (by omega)
    obtain ⟨j1, j2⟩ := st.img sX sY sa sb m.h
    have c1 := place_same (G := G) hG f1 f2 (by omega)
    by_cases hq : a = u ∧ b = v
    · obtain ⟨rfl, rfl⟩ := hq
      rw [g1, g2] at ap3
      have c2 := place_same (G := G) hG sa sb (by omega)
      exact Spec.of_run hG Tryz.func5 (ro := [3, 4]) (m := 60)
        [.call aw, .call sh, .call sp, .call pv, .call rp, .call fx, .call ap1, .eq 73 e73, .eq 74 (eqS e74), .call pw, .call ap2, .call ap3, .call c1, .call c1, .call c2, .call c2] (by kernel_rfl)
    · have c2 := place_diff (G := G) hG sa sb (by omega) hq
      have c3 := place_diff (G := G) (x := a) (y := b) hG j1 j2 (by omega) (fun e => hq (only a b e.1 e.2))
      exact Spec.of_run hG Tryz.func5 (ro := [3, 4]) (m := 60)
        [.call aw, .call sh, .call sp, .call pv, .call rp, .call fx, .call ap1, .eq 73 e73, .eq 74 (eqS e74), .call pw, .call ap2, .call ap3, .call c1, .call c1, .call c3, .call c2] (by kernel_rfl)
theorem Fixed_spec (hG : Steady G) {p : RPo} {q : RPl} (hp : p.digs) (hq : q.digs) (n : Nat) : Spec Tryz.prog G 5 [p.dat, q.dat, .lit (.int .u8 (Int.ofNat n))] (bool true) := by
  have aw := awake17_spec (G := G) hG
  by_cases h1 : p.short
  case neg => exact Spec.of_run hG Tryz.func5 (ro := [3, 4]) (m := 60) [.call aw, .call ((Short1 hG p).2 h1), .call aw] (by kernel_rfl)
  have sh := (Short1 (G := G) hG p).1 h1
  by_cases h2 : q.short
  case neg => exact Spec.of_run hG Tryz.func5 (ro := [3, 4]) (m := 60) [.call aw, .call sh, .call ((ShortPl1 hG q).2 h2), .call aw] (by kernel_rfl)
  have sp := (ShortPl1 (G := G) hG q).1 h2
  have kb := KB_eq
  have kp := RPo.short_ok hp h1
  have kq := RPl.short_ok hq h2
  have pv := PValid_spec (G := G) hG kp (by omega)
  have rp := PRPlace_spec (G := G) hG kq (by omega)
  cases hv : p.valid with
  | false =>
    rw [hv] at pv
    exact Spec.of_run hG Tryz.func5 (ro := [3, 4]) (m := 60) [.call aw, .call sh, .call sp, .call pv, .call aw] (by kernel_rfl)
  | true =>
    rw [hv] at pv
    cases hw : q.valid with
    | false =>
      rw [hw] at rp
      exact Spec.of_run hG Tryz.func5 (ro := [3, 4]) (m := 60) [.call aw, .call sh, .call sp, .call pv, .call rp, .call aw] (by kernel_rfl)
    | true =>
      obtain ⟨m, hm, rfl⟩ := RPo.valid_elim kp hv
      obtain ⟨a, b, sa, sb, rfl⟩ := RPl.valid_elim kq hw
      exact Fixed_valid hG hm sa sb h1 h2 n
end Lw
