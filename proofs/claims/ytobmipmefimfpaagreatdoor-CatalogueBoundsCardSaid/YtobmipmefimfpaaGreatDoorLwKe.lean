/- Bounds of boxes of a catalogue that is right: program and reference, run. No condition. -/
import Derived.Test.YtobmipmefimfpaaGreatDoorLwKd
namespace Lw
open Go Go.RowKit Go.Proofs

/-! ### data -/
structure Cat where
  g : List Rat
  a : List Rat
  b : List Rat
  c : List Rat
  p : List Vp
def Cat.raw (y : Cat) : RCt := ⟨y.g.map rawOf, y.a.map rawOf, y.b.map rawOf, y.c.map rawOf, y.p.map Vp.raw⟩
def Cat.list (y : Cat) (j : Nat) : List Rat := if j = 0 then y.g else if j = 1 then y.a else if j = 2 then y.b else y.c
theorem Cat.raw_list (y : Cat) (j : Nat) : y.raw.list j = (y.list j).map rawOf := by
  unfold RCt.list Cat.list Cat.raw
  by_cases h0 : j = 0
  · rw [if_pos h0, if_pos h0]
  · rw [if_neg h0, if_neg h0]
    by_cases h1 : j = 1
    · rw [if_pos h1, if_pos h1]
    · rw [if_neg h1, if_neg h1]
      by_cases h2 : j = 2
      · rw [if_pos h2, if_pos h2]
      · rw [if_neg h2, if_neg h2]
/-- A list that is right. -/
def fineL (l : List Rat) : Prop := 0 < l.length ∧ l.length ≤ 4 ∧ (∀ q ∈ l, SzQ 1 q ∧ 0 < q) ∧ ∀ i, i + 1 < l.length → l.getD i 0 < l.getD (i + 1) 0
def Cat.fine (y : Cat) : Prop := (∀ j, j < 4 → fineL (y.list j)) ∧ (0 < y.p.length ∧ y.p.length ≤ 4) ∧ ∀ v ∈ y.p, v.ok 2
theorem raws_of {l : List Raw} (h : ∀ i, i < l.length → (l.getD i Raw.zero).valid = true) : l = (l.map Raw.q).map rawOf := by
  rw [List.map_map]
  have : l.map (rawOf ∘ Raw.q) = l.map id := List.map_congr_left fun r hr => by
    obtain ⟨i, hi, rfl⟩ := List.mem_iff_getElem.1 hr
    have := h i hi
    rw [List.getD_eq_getElem?_getD, List.getElem?_eq_getElem hi] at this
    exact (Raw.canon this).symm
  rw [this, List.map_id]
theorem list_of_code {l : List Raw} (hl : listOk l) (hk : ∀ r ∈ l, r.ok 1) (h : lcode l = 0) : ∃ q : List Rat, fineL q ∧ l = q.map rawOf := by
  unfold lcode at h
  by_cases h0 : l.length = 0
  · rw [if_pos h0] at h; cases h
  · rw [if_neg h0] at h
    by_cases h8 : l.length ≤ 8
    · rw [if_pos h8] at h
      rcases firstN_cases (gd l) l.length with ⟨g1, g2⟩ | ⟨i, g1, -, -, -⟩
      · have each : ∀ i, i < l.length → (l.getD i Raw.zero).valid = true ∧ ¬ (l.getD i Raw.zero).q ≤ 0 ∧ (i = 0 ∨ ∃ j, i = j + 1 ∧ ¬ (l.getD i Raw.zero).q ≤ (l.getD j Raw.zero).q) := by
          intro i hi
          have g := g2 i hi
          rcases gd_cases l i with ⟨c, -⟩ | ⟨c, -⟩ | ⟨c, -⟩ | ⟨-, c⟩
          · rw [c] at g; cases g
          · rw [c] at g; cases g
          · rw [c] at g; cases g
          · exact c
        have e := raws_of fun i hi => (each i hi).1
        have at' : ∀ i, i < l.length → (l.map Raw.q).getD i 0 = (l.getD i Raw.zero).q := fun i hi => map_getD Raw.q hi 0 Raw.zero
        refine ⟨l.map Raw.q, ⟨by simp; omega, by have := hl.1; unfold lenOk at this; simp; omega, fun q hq => ?_, fun i hi => ?_⟩, e⟩
        · obtain ⟨r, hr, rfl⟩ := List.mem_map.1 hq
          refine ⟨Raw.ok.sz (hk r hr), ?_⟩
          obtain ⟨i, hi, rfl⟩ := List.mem_iff_getElem.1 hr
          have := (each i hi).2.1
          rw [List.getD_eq_getElem?_getD, List.getElem?_eq_getElem hi] at this
          exact Rat.not_le.1 this
        · rw [List.length_map] at hi
          rw [at' i (by omega), at' (i + 1) hi]
          rcases (each (i + 1) hi).2.2 with h | ⟨j, hj, h⟩
          · omega
          · have : i = j := by omega
            subst this
            exact Rat.not_le.1 h
      · rw [g1] at h
        exact absurd h (bd_ne l i)
    · rw [if_neg h8] at h; cases h
theorem cat_of {x : RCt} (hd : x.digs) (hs : x.short) (h : x.code = 0) : ∃ y : Cat, y.fine ∧ x = y.raw := by
  unfold RCt.code at h
  rcases firstN_cases (fun j => decide (lcode (x.list j) = 0)) 4 with ⟨h0, g⟩ | ⟨j, h0, h1, h2, -⟩
  · rw [h0] at h
    have each : ∀ j, j < 4 → ∃ q : List Rat, fineL q ∧ x.list j = q.map rawOf := fun j hj => list_of_code (hs.1 j hj) (RCt.list_ok hd hs hj) (of_decide_eq_true (g j hj))
    obtain ⟨q0, f0, e0⟩ := each 0 (by omega)
    obtain ⟨q1, f1, e1⟩ := each 1 (by omega)
    obtain ⟨q2, f2, e2⟩ := each 2 (by omega)
    obtain ⟨q3, f3, e3⟩ := each 3 (by omega)
    unfold pcode at h
    simp only at h
    by_cases p0 : x.p.length = 0
    · rw [if_pos p0] at h; cases h
    · rw [if_neg p0] at h
      by_cases p4 : x.p.length ≤ 4
      · rw [if_pos p4] at h
        by_cases pv : allValid x.p
        · obtain ⟨vs, v1, v2⟩ := pairs_of (RCt.pairs_ok hd hs) pv
          have hl : vs.length = x.p.length := by rw [v2, List.length_map]
          refine ⟨⟨q0, q1, q2, q3, vs⟩, ⟨fun j hj => ?_, by show 0 < vs.length ∧ vs.length ≤ 4; omega, v1⟩, ?_⟩
          · rcases four_cases hj with rfl | rfl | rfl | rfl
            · exact f0
            · exact f1
            · exact f2
            · exact f3
          · obtain ⟨xg, xa, xb, xc, xp⟩ := x
            have a0 : xg = q0.map rawOf := e0
            have a1 : xa = q1.map rawOf := e1
            have a2 : xb = q2.map rawOf := e2
            have a3 : xc = q3.map rawOf := e3
            have a4 : xp = vs.map Vp.raw := v2
            rw [a0, a1, a2, a3, a4]; rfl
        · rw [if_neg pv] at h; cases h
      · rw [if_neg p4] at h; cases h
  · rw [h0] at h
    exact absurd h (of_decide_eq_false h2)
/-- Indices as data. -/
def Ix.cells (x : Ix) : List D := [nat x.g, nat x.a, nat x.b, nat x.c]
def Ix.dat (x : Ix) : D := .agg x.cells
def Cat.size (y : Cat) : Ix := ⟨y.g.length, y.a.length, y.b.length, y.c.length⟩
def Cat.bx (y : Cat) (lo hi : Ix) : Bx := ⟨y.g.getD lo.g 0, y.a.getD lo.a 0, y.b.getD lo.b 0, y.c.getD lo.c 0, y.g.getD hi.g 0, y.a.getD hi.a 0, y.b.getD hi.b 0, y.c.getD hi.c 0⟩
def Cat.low (y : Cat) (lo hi : Ix) : Rat := (y.bx lo hi).low (y.p.map Vp.pr) 0
theorem mono_step {l : List Rat} (h : fineL l) : ∀ (d i : Nat), i + d < l.length → l.getD i 0 ≤ l.getD (i + d) 0
  | 0, i, _ => Rat.le_refl
  | d + 1, i, hi => Rat.le_trans (mono_step h d i (by omega)) (Rat.le_of_lt (h.2.2.2 (i + d) hi))
theorem mono_at {l : List Rat} (h : fineL l) {i j : Nat} (hij : i ≤ j) (hj : j < l.length) : l.getD i 0 ≤ l.getD j 0 := by
  have := mono_step h (j - i) i (by omega)
  rwa [show i + (j - i) = j by omega] at this
theorem pos_at {l : List Rat} (h : fineL l) {i : Nat} (hi : i < l.length) : 0 ≤ l.getD i 0 := Rat.le_of_lt (h.2.2.1 _ (getD_mem hi 0)).2
theorem sz_at {l : List Rat} (h : fineL l) {i : Nat} (hi : i < l.length) : SzQ 1 (l.getD i 0) := (h.2.2.1 _ (getD_mem hi 0)).1
theorem Cat.bx_fine {y : Cat} (h : y.fine) {lo hi : Ix} (h1 : lo.le hi) (h2 : hi.lt y.size) : (y.bx lo hi).fine := by
  obtain ⟨a0, a1, a2, a3⟩ := h1
  obtain ⟨b0, b1, b2, b3⟩ := h2
  have f0 : fineL y.g := h.1 0 (by omega)
  have f1 : fineL y.a := h.1 1 (by omega)
  have f2 : fineL y.b := h.1 2 (by omega)
  have f3 : fineL y.c := h.1 3 (by omega)
  exact ⟨⟨pos_at f0 (Nat.lt_of_le_of_lt a0 b0), mono_at f0 a0 b0⟩, ⟨pos_at f1 (Nat.lt_of_le_of_lt a1 b1), mono_at f1 a1 b1⟩, ⟨pos_at f2 (Nat.lt_of_le_of_lt a2 b2), mono_at f2 a2 b2⟩, pos_at f3 (Nat.lt_of_le_of_lt a3 b3), mono_at f3 a3 b3⟩
/-- The sizes of a box's lengths. -/
structure Bx.small (x : Bx) : Prop where
  g : SzQ 1 x.g
  a : SzQ 1 x.a
  b : SzQ 1 x.b
  r : SzQ 1 x.r
  G : SzQ 1 x.G
  A : SzQ 1 x.A
  B : SzQ 1 x.B
  R : SzQ 1 x.R
theorem Cat.bx_small {y : Cat} (h : y.fine) {lo hi : Ix} (h1 : lo.le hi) (h2 : hi.lt y.size) : (y.bx lo hi).small := by
  obtain ⟨a0, a1, a2, a3⟩ := h1
  obtain ⟨b0, b1, b2, b3⟩ := h2
  have f0 : fineL y.g := h.1 0 (by omega)
  have f1 : fineL y.a := h.1 1 (by omega)
  have f2 : fineL y.b := h.1 2 (by omega)
  have f3 : fineL y.c := h.1 3 (by omega)
  exact ⟨sz_at f0 (Nat.lt_of_le_of_lt a0 b0), sz_at f1 (Nat.lt_of_le_of_lt a1 b1), sz_at f2 (Nat.lt_of_le_of_lt a2 b2), sz_at f3 (Nat.lt_of_le_of_lt a3 b3), sz_at f0 b0, sz_at f1 b1, sz_at f2 b2, sz_at f3 b3⟩

/-! ### sizes -/
theorem tLo_sz {k : Nat} {q x y X Y : Rat} (sq : SzQ k q) (sx : SzQ 1 x) (sy : SzQ 1 y) (sX : SzQ 1 X) (sY : SzQ 1 Y) : SzQ (k + 2) (tLo q x y X Y) ∧ SzQ (k + 2) (tHi q x y X Y) := by
  unfold tLo tHi
  split
  · exact ⟨sq.mul (sX.mul sY), sq.mul (sx.mul sy)⟩
  · exact ⟨sq.mul (sx.mul sy), sq.mul (sX.mul sY)⟩
structure Fc.ok (f : Fc) : Prop where
  gc : SzQ 50 f.gc
  ga : SzQ 50 f.ga
  ac : SzQ 50 f.ac
theorem Vp.fc_ok {v : Vp} (h : v.ok 2) : v.pr.fc.ok := by
  have c1 := h.1.cosT v.h
  have s1 := h.1.sinT v.h
  have c2 := h.2.1.cosT v.k
  have s2 := h.2.1.sinT v.k
  exact ⟨(sz_2.mul c2).mono (by omega), (sz_2.mul c1).neg.mono (by omega), (sz_2.mul ((c1.mul c2).add (s1.mul s2))).neg.mono (by omega)⟩
theorem leastQ_sz {k : Nat} {a b : Rat} (sa : SzQ k a) (sb : SzQ k b) : SzQ (k + k) (leastQ a b) := by
  have := sa.2.2
  unfold leastQ
  split
  · exact sa.mul sa
  · split
    · exact sb.mul sb
    · exact sz_zero (by omega)
theorem bx_lo_sz {x : Bx} (h : x.small) {f : Fc} (hf : f.ok) : SzQ 300 (x.lo f) ∧ SzQ 300 (x.hi f) := by
  have z : SzQ 1 (0 : Rat) := sz_zero (by omega)
  have t1 := tLo_sz sz_1 h.g h.g h.G h.G
  have t2 := tLo_sz sz_1 h.a h.a h.A h.A
  have t3 := tLo_sz sz_1 h.r h.r h.R h.R
  have t4 := tLo_sz sz_m1 h.b h.b h.B h.B
  have t5 := tLo_sz hf.gc h.g h.r h.G h.R
  have t6 := tLo_sz hf.ga h.g h.a h.G h.A
  have t7 := tLo_sz hf.ac h.a h.r h.A h.R
  exact ⟨(((((((z.add t1.1).add t2.1).add t3.1).add t4.1).add t5.1).add t6.1).add t7.1).mono (by omega), (((((((z.add t1.2).add t2.2).add t3.2).add t4.2).add t5.2).add t6.2).add t7.2).mono (by omega)⟩
/-- The bound by the first pairs. -/
def Bx.sumN (x : Bx) (l : List Vp) : Nat → Rat
  | 0 => 0
  | i + 1 => x.sumN l i + leastQ (x.lo (l.getD i Vp.none).pr.fc) (x.hi (l.getD i Vp.none).pr.fc)
theorem low_append (x : Bx) : ∀ (l m : List Pr) (u : Rat), x.low (l ++ m) u = x.low m (x.low l u)
  | [], _, _ => rfl
  | _ :: l, m, _ => low_append x l m _
theorem sumN_take (x : Bx) (l : List Vp) : ∀ i, i ≤ l.length → x.sumN l i = x.low ((l.take i).map Vp.pr) 0
  | 0, _ => rfl
  | i + 1, h => by
    have hi : i < l.length := h
    have e : l.take (i + 1) = l.take i ++ [l.getD i Vp.none] := by
      rw [List.take_add_one, List.getD_eq_getElem?_getD, List.getElem?_eq_getElem hi]; rfl
    rw [e, List.map_append, low_append, ← sumN_take x l i (by omega)]
    rfl
theorem sumN_low (x : Bx) (l : List Vp) : x.sumN l l.length = x.low (l.map Vp.pr) 0 := by
  rw [sumN_take x l _ (Nat.le_refl _), List.take_length]
theorem sumN_sz {x : Bx} (h : x.small) {l : List Vp} (hl : ∀ v ∈ l, v.ok 2) : ∀ i, i ≤ l.length → SzQ (700 * (i + 1)) (x.sumN l i)
  | 0, _ => sz_zero (by omega)
  | i + 1, hi => by
    have s := sumN_sz h hl i (by omega)
    obtain ⟨a, b⟩ := bx_lo_sz h (Vp.fc_ok (hl _ (getD_mem hi Vp.none)))
    exact (s.add (leastQ_sz a b)).mono (by omega)
theorem low_sz {y : Cat} (h : y.fine) {lo hi : Ix} (h1 : lo.le hi) (h2 : hi.lt y.size) : SzQ 3500 (y.low lo hi) := by
  have := sumN_sz (Cat.bx_small h h1 h2) h.2.2 y.p.length (Nat.le_refl _)
  rw [sumN_low] at this
  exact this.mono (by have := h.2.1.2; omega)

variable {G : World → Prop}

/-! ### the program -/
def FSp (a b : Rat) : D := .agg (cQ a ++ cQ b)
def FFc (f : Fc) : D := .agg (cQ f.gc ++ (cQ f.ga ++ cQ f.ac))
theorem Of49 (hG : Steady G) {v : Vp} (h : v.ok 2) : Spec Tryz.prog G 76 [v.dat] (.tup [FFc v.pr.fc, .lit .nilIface]) := by
  have kb := KB_eq
  have d1 := PDir_ok (G := G) hG h.1 h.2.2.1 (by omega)
  have d2 := PDir_ok (G := G) hG h.2.1 h.2.2.2 (by omega)
  have c1 := h.1.cosT v.h
  have s1 := h.1.sinT v.h
  have c2 := h.2.1.cosT v.k
  have s2 := h.2.1.sinT v.k
  have m1 := FMul_spec (G := G) hG c1.isQ c2.isQ (by omega) (by omega)
  have m2 := FMul_spec (G := G) hG s1.isQ s2.isQ (by omega) (by omega)
  have ad := FAdd_spec (G := G) hG (c1.mul c2).isQ (s1.mul s2).isQ (by omega) (by omega)
  have m3 := FMul_spec (G := G) hG sz_2.isQ c2.isQ (by omega) (by omega)
  have m4 := FMul_spec (G := G) hG sz_2.isQ c1.isQ (by omega) (by omega)
  have n4 := FNeg_spec (G := G) hG (sz_2.mul c1).isQ (by omega)
  have m5 := FMul_spec (G := G) hG sz_2.isQ ((c1.mul c2).add (s1.mul s2)).isQ (by omega) (by omega)
  have n5 := FNeg_spec (G := G) hG (sz_2.mul ((c1.mul c2).add (s1.mul s2))).isQ (by omega)
  exact Spec.of_run hG Tryz.func76 (ro := [1]) (m := 60) [.call d1, .call d2, .call (FTwo hG), .call m1, .call m2, .call ad, .call m3, .call m4, .call n4, .call m5, .call n5] (by kernel_rfl)
theorem SAdd (hG : Steady G) {k l : Nat} {a b u v : Rat} (sa : SzQ k a) (sb : SzQ k b) (su : SzQ l u) (sv : SzQ l v) (hk : k ≤ KB) (hl : l ≤ KB) : Spec Tryz.prog G 115 [FSp a b, F u, F v] (FSp (a + u) (b + v)) := by
  have a1 := FAdd_spec (G := G) hG sa.isQ su.isQ hk hl
  have a2 := FAdd_spec (G := G) hG sb.isQ sv.isQ hk hl
  exact Spec.of_run hG Tryz.func115 (ro := [3, 4, 5]) (m := 60) [.call a1, .call a2] (by kernel_rfl)
theorem STimes (hG : Steady G) {k l : Nat} {s t q x y X Y : Rat} (ss : SzQ k s) (st : SzQ k t) (sq : SzQ l q) (sx : SzQ 1 x) (sy : SzQ 1 y) (sX : SzQ 1 X) (sY : SzQ 1 Y) (hk : k ≤ KB) (hl : l + 2 ≤ KB) :
    Spec Tryz.prog G 77 [FSp s t, F q, FSp x X, FSp y Y] (FSp (s + tLo q x y X Y) (t + tHi q x y X Y)) := by
  have kb := KB_eq
  have m1 := FMul_spec (G := G) hG sx.isQ sy.isQ (by omega) (by omega)
  have m2 := FMul_spec (G := G) hG sq.isQ (sx.mul sy).isQ (by omega) (by omega)
  have m3 := FMul_spec (G := G) hG sX.isQ sY.isQ (by omega) (by omega)
  have m4 := FMul_spec (G := G) hG sq.isQ (sX.mul sY).isQ (by omega) (by omega)
  have sg := FSign_spec (G := G) hG sq.isQ (by omega)
  have tz := tLo_sz sq sx sy sX sY
  have ad := SAdd (G := G) hG ss st tz.1 tz.2 hk hl
  by_cases h : q < 0
  · have e1 : tLo q x y X Y = q * (X * Y) := if_pos h
    have e2 : tHi q x y X Y = q * (x * y) := if_pos h
    rw [e1, e2] at ad ⊢
    exact Spec.of_run hG Tryz.func77 (ro := [4, 5, 6, 7]) (m := 60) [.call m1, .call m2, .call m3, .call m4, .call sg, .eq 27 (Lw.eqB (sgn_lt_true h)), .call ad] (by kernel_rfl)
  · have e1 : tLo q x y X Y = q * (x * y) := if_neg h
    have e2 : tHi q x y X Y = q * (X * Y) := if_neg h
    rw [e1, e2] at ad ⊢
    exact Spec.of_run hG Tryz.func77 (ro := [4, 5, 6, 7]) (m := 60) [.call m1, .call m2, .call m3, .call m4, .call sg, .eq 27 (Lw.eqB (sgn_lt_false h)), .call ad] (by kernel_rfl)
theorem sgn_gtT {a : Rat} (h : 0 < a) : decide (sgn a > 0) = true := by
  rcases sgn_cases a with ⟨h1, h2⟩ | ⟨h1, h2⟩ | ⟨h1, h2⟩
  · exact absurd h (Rat.not_lt.2 (Rat.le_of_lt h1))
  · rw [h1] at h; exact absurd h (by decide +kernel)
  · rw [h2]; rfl
theorem sgn_gtF {a : Rat} (h : ¬ 0 < a) : decide (sgn a > 0) = false := by
  rcases sgn_cases a with ⟨h1, h2⟩ | ⟨h1, h2⟩ | ⟨h1, h2⟩
  · rw [h2]; rfl
  · rw [h2]; rfl
  · exact absurd h1 h
theorem SLeast (hG : Steady G) {k : Nat} {a b : Rat} (sa : SzQ k a) (sb : SzQ k b) (hk : k ≤ KB) : Spec Tryz.prog G 80 [FSp a b] (F (leastQ a b)) := by
  have s1 := FSign_spec (G := G) hG sa.isQ hk
  have s2 := FSign_spec (G := G) hG sb.isQ hk
  have m1 := FMul_spec (G := G) hG sa.isQ sa.isQ hk hk
  have m2 := FMul_spec (G := G) hG sb.isQ sb.isQ hk hk
  unfold leastQ
  by_cases h1 : 0 < a
  · rw [if_pos h1]
    exact Spec.of_run hG Tryz.func80 (ro := [1]) (m := 60) [.call s1, .eq 7 (Lw.eqB (sgn_gtT h1)), .call m1] (by kernel_rfl)
  · rw [if_neg h1]
    by_cases h2 : b < 0
    · rw [if_pos h2]
      exact Spec.of_run hG Tryz.func80 (ro := [1]) (m := 60) [.call s1, .eq 7 (Lw.eqB (sgn_gtF h1)), .call s2, .eq 17 (Lw.eqB (sgn_lt_true h2)), .call m2] (by kernel_rfl)
    · rw [if_neg h2]
      exact Spec.of_run hG Tryz.func80 (ro := [1]) (m := 60) [.call s1, .eq 7 (Lw.eqB (sgn_gtF h1)), .call s2, .eq 17 (Lw.eqB (sgn_lt_false h2))] (by kernel_rfl)
/-- An element of a list of fractions. -/
theorem aggR {l : List Rat} {i : Nat} (h : i < l.length) : D.agg ((((l.map rawOf).flatMap Raw.cells).drop ((Int.ofNat i).toNat * 3)).take 3) = F (l.getD i 0) :=
  (aggS Raw.cells_len (by rw [List.length_map]; exact h) Raw.zero).trans (by rw [map_getD rawOf h Raw.zero 0]; rfl)
theorem atR {l : List Rat} {i : Nat} (h : i < l.length) : ((0:Int) ≤ Int.ofNat i ∧ Int.ofNat i < ((l.map rawOf).length : Int)) ∧ (Int.ofNat i).toNat * 3 < ((l.map rawOf).flatMap Raw.cells).length :=
  atS_need Raw.cells_len (by omega) (by rw [List.length_map]; exact h)
theorem loR {l : List Rat} {i : Nat} (h : i < l.length) : 0 < 3 ∧ 3 ≤ (((l.map rawOf).flatMap Raw.cells).drop ((Int.ofNat i).toNat * 3)).length :=
  loadS_need Raw.cells_len (by omega) (by rw [List.length_map]; exact h)
theorem aggP {l : List Vp} {i : Nat} (h : i < l.length) : D.agg ((((l.map Vp.raw).flatMap RPr.cells).drop ((Int.ofNat i).toNat * 8)).take 8) = (l.getD i Vp.none).dat :=
  (aggS RPr.cells_len (by rw [List.length_map]; exact h) RPr.zero).trans (by rw [map_getD Vp.raw h RPr.zero Vp.none]; rfl)
theorem atP {l : List Vp} {i : Nat} (h : i < l.length) : ((0:Int) ≤ Int.ofNat i ∧ Int.ofNat i < ((l.map Vp.raw).length : Int)) ∧ (Int.ofNat i).toNat * 8 < ((l.map Vp.raw).flatMap RPr.cells).length :=
  atS_need RPr.cells_len (by omega) (by rw [List.length_map]; exact h)
theorem loP {l : List Vp} {i : Nat} (h : i < l.length) : 0 < 8 ∧ 8 ≤ (((l.map Vp.raw).flatMap RPr.cells).drop ((Int.ofNat i).toNat * 8)).length :=
  loadS_need RPr.cells_len (by omega) (by rw [List.length_map]; exact h)
theorem ltP {l : List Vp} {i : Nat} (h : i < l.length) : decide (Int.ofNat i < Int.ofNat (l.map Vp.raw).length) = true := lt_true (by rw [List.length_map]; exact h)
theorem ltPF (l : List Vp) : decide (Int.ofNat l.length < Int.ofNat (l.map Vp.raw).length) = false := lt_false (by rw [List.length_map]; exact Nat.le_refl _)
def bdInv (x : Bx) (l : List Vp) (i : Nat) (s : Rat) : St :=
  lay 110 [(6, .ptr 0 0), (11, .ptr 2 0), (12, .ptr 3 0), (13, .ptr 4 0), (14, .ptr 5 0), (15, .ptr 6 0), (16, .ptr 7 0), (55, rowS RPr.cells (l.map Vp.raw)), (56, nat (l.map Vp.raw).length), (57, nat i)]
    [(0, zeroF), (2, cQ x.g ++ cQ x.G), (3, cQ x.a ++ cQ x.A), (4, cQ x.b ++ cQ x.B), (5, cQ x.r ++ cQ x.R), (6, cQ 1), (7, cQ s)]
theorem bd_round (hG : Steady G) {x : Bx} (h : x.small) {l : List Vp} (hl : ∀ v ∈ l, v.ok 2) {i : Nat} (hi : i < l.length) (hb : l.length ≤ 4) :
    Goes Tryz.prog G 0 (loopOf Tryz.f46 1) (bdInv x l i (x.sumN l i)) .normal (bdInv x l (i + 1) (x.sumN l (i + 1))) := by
  have kb := KB_eq
  have e := aggP hi
  have ok := hl _ (getD_mem hi Vp.none)
  have ss := sumN_sz h hl i (by omega)
  show Goes _ _ _ _ _ _ (bdInv x l (i + 1) (x.sumN l i + leastQ (x.lo (l.getD i Vp.none).pr.fc) (x.hi (l.getD i Vp.none).pr.fc)))
  have so := bx_lo_sz h (Vp.fc_ok ok)
  have ofs := Of49 (G := G) hG ok
  have le := SLeast (G := G) hG so.1 so.2 (by omega)
  have ad := FAdd_spec (G := G) hG ss.isQ (leastQ_sz so.1 so.2).isQ (by omega) (by omega)
  have fo := Vp.fc_ok ok
  generalize l.getD i Vp.none = v at *
  generalize x.sumN l i = s at *
  generalize v.pr.fc = f at *
  have z : SzQ 1 (0 : Rat) := sz_zero (by omega)
  have t1 := tLo_sz sz_1 h.g h.g h.G h.G
  have t2 := tLo_sz sz_1 h.a h.a h.A h.A
  have t3 := tLo_sz sz_1 h.r h.r h.R h.R
  have t4 := tLo_sz sz_m1 h.b h.b h.B h.B
  have t5 := tLo_sz fo.gc h.g h.r h.G h.R
  have t6 := tLo_sz fo.ga h.g h.a h.G h.A
  have u1 := STimes (G := G) hG z z sz_1 h.g h.g h.G h.G (by omega) (by omega)
  have u2 := STimes (G := G) hG (z.add t1.1) (z.add t1.2) sz_1 h.a h.a h.A h.A (by omega) (by omega)
  have u3 := STimes (G := G) hG ((z.add t1.1).add t2.1) ((z.add t1.2).add t2.2) sz_1 h.r h.r h.R h.R (by omega) (by omega)
  have ng := FNeg_spec (G := G) hG sz_1.isQ (by omega)
  have u4 := STimes (G := G) hG (((z.add t1.1).add t2.1).add t3.1) (((z.add t1.2).add t2.2).add t3.2) sz_m1 h.b h.b h.B h.B (by omega) (by omega)
  have u5 := STimes (G := G) hG ((((z.add t1.1).add t2.1).add t3.1).add t4.1) ((((z.add t1.2).add t2.2).add t3.2).add t4.2) fo.gc h.g h.r h.G h.R (by omega) (by omega)
  have u6 := STimes (G := G) hG (((((z.add t1.1).add t2.1).add t3.1).add t4.1).add t5.1) (((((z.add t1.2).add t2.2).add t3.2).add t4.2).add t5.2) fo.ga h.g h.a h.G h.A (by omega) (by omega)
  have u7 := STimes (G := G) hG ((((((z.add t1.1).add t2.1).add t3.1).add t4.1).add t5.1).add t6.1) ((((((z.add t1.2).add t2.2).add t3.2).add t4.2).add t5.2).add t6.2) fo.ac h.a h.r h.A h.R (by omega) (by omega)
  exact Goes.of_run hG (ro := []) (m := 60) (lay_len ..)
    [.eq 58 (Lw.eqB (ltP hi)), .prop (atP hi), .prop (loP hi), .eq 60 e, .call ofs, .call u1, .call u2, .call u3, .call ng, .call u4, .call u5, .call u6, .call u7, .call le, .call ad, .eq 108 (eqS (nat_succ' (n := l.length) hi (by omega)))] (by kernel_rfl)
theorem Bound49 (hG : Steady G) {y : Cat} (h : y.fine) {lo hi : Ix} (h1 : lo.le hi) (h2 : hi.lt y.size) : Spec Tryz.prog G 46 [y.raw.dat, lo.dat, hi.dat] (.tup [F (y.low lo hi), .lit .nilIface]) := by
  have sm := Cat.bx_small h h1 h2
  have hl := h.2.2
  have l4 := h.2.1.2
  have lp := Abs.count (P := Tryz.prog) (Good := G) (gb := 0) (body := loopOf Tryz.f46 1) (e := .exit 2) (s' := bdInv (y.bx lo hi) y.p y.p.length ((y.bx lo hi).sumN y.p y.p.length)) (fun i => bdInv (y.bx lo hi) y.p i ((y.bx lo hi).sumN y.p i)) y.p.length (fun i => lay_len ..) (by intro h; cases h)
    (fun i hi => bd_round hG sm hl hi l4) (by generalize (y.bx lo hi).sumN y.p y.p.length = s; exact Goes.of_run hG (ro := []) (m := 60) (lay_len ..) [.eq 58 (Lw.eqB (ltPF y.p))] (by kernel_rfl))
  rw [sumN_low] at lp
  show Spec _ _ _ _ (.tup [F ((y.bx lo hi).low (y.p.map Vp.pr) 0), .lit .nilIface])
  generalize (y.bx lo hi).low (y.p.map Vp.pr) 0 = s at lp
  obtain ⟨a0, a1, a2, a3⟩ := h1
  obtain ⟨b0, b1, b2, b3⟩ := h2
  have c0 : lo.g < y.g.length := Nat.lt_of_le_of_lt a0 b0
  have c1 : lo.a < y.a.length := Nat.lt_of_le_of_lt a1 b1
  have c2 : lo.b < y.b.length := Nat.lt_of_le_of_lt a2 b2
  have c3 : lo.c < y.c.length := Nat.lt_of_le_of_lt a3 b3
  have d0 : hi.g < y.g.length := b0
  have d1 : hi.a < y.a.length := b1
  have d2 : hi.b < y.b.length := b2
  have d3 : hi.c < y.c.length := b3
  exact Spec.of_run hG Tryz.func46 (ro := [3, 4, 5]) (m := 60)
    [.call (PLists_spec hG y.raw),
     .eq 32 (Eq.refl (nat lo.g)), .prop (atR c0), .prop (loR c0), .eq 34 (aggR c0), .eq 38 (Eq.refl (nat hi.g)), .prop (atR d0), .prop (loR d0), .eq 40 (aggR d0),
     .eq 32 (Eq.refl (nat lo.a)), .prop (atR c1), .prop (loR c1), .eq 34 (aggR c1), .eq 38 (Eq.refl (nat hi.a)), .prop (atR d1), .prop (loR d1), .eq 40 (aggR d1),
     .eq 32 (Eq.refl (nat lo.b)), .prop (atR c2), .prop (loR c2), .eq 34 (aggR c2), .eq 38 (Eq.refl (nat hi.b)), .prop (atR d2), .prop (loR d2), .eq 40 (aggR d2),
     .eq 32 (Eq.refl (nat lo.c)), .prop (atR c3), .prop (loR c3), .eq 34 (aggR c3), .eq 38 (Eq.refl (nat hi.c)), .prop (atR d3), .prop (loR d3), .eq 40 (aggR d3),
     .call (FOne hG), .code lp] (by kernel_rfl)

/-! ### the reference -/
theorem cmp_gtT {a b : Rat} (h : b < a) : decide (cmpQ a b > 0) = true := by
  unfold cmpQ
  rw [if_neg (fun g => absurd (Rat.le_of_lt h) (Rat.not_le.2 g)), if_pos h]; rfl
theorem cmp_gtF {a b : Rat} (h : ¬ b < a) : decide (cmpQ a b > 0) = false := by
  unfold cmpQ
  rw [if_neg h]
  split <;> rfl
theorem RTerm (hG : Steady G) {l : Nat} {q x y X Y : Rat} (sq : SzQ l q) (sx : SzQ 1 x) (sy : SzQ 1 y) (sX : SzQ 1 X) (sY : SzQ 1 Y) (hx : 0 ≤ x) (hy : 0 ≤ y) (h1 : x ≤ X) (h2 : y ≤ Y) (hl : 2 * l + 4 < KB) :
    Spec Tryz.prog G 83 [F q, FSp x X, FSp y Y] (FSp (tLo q x y X Y) (tHi q x y X Y)) := by
  have kb := KB_eq
  have m1 := RFMul_spec (G := G) hG sx.isQ sy.isQ (by omega) (by omega)
  have m2 := RFMul_spec (G := G) hG sq.isQ (sx.mul sy).isQ (by omega) (by omega)
  have m3 := RFMul_spec (G := G) hG sX.isQ sY.isQ (by omega) (by omega)
  have m4 := RFMul_spec (G := G) hG sq.isQ (sX.mul sY).isQ (by omega) (by omega)
  have cm := RFCmp_spec (G := G) hG (sq.mul (sx.mul sy)).isQ (sq.mul (sX.mul sY)).isQ (by omega)
  obtain ⟨e1, e2⟩ := tLo_ref (k := q) hx hy h1 h2
  rw [← e1, ← e2]
  by_cases h : q * (X * Y) < q * (x * y)
  · rw [if_pos h, if_pos h]
    exact Spec.of_run hG Tryz.func83 (ro := [3, 4, 5]) (m := 60) [.call m1, .call m2, .call m3, .call m4, .call cm, .eq 26 (Lw.eqB (cmp_gtT h))] (by kernel_rfl)
  · rw [if_neg h, if_neg h]
    exact Spec.of_run hG Tryz.func83 (ro := [3, 4, 5]) (m := 60) [.call m1, .call m2, .call m3, .call m4, .call cm, .eq 26 (Lw.eqB (cmp_gtF h))] (by kernel_rfl)
theorem Enclose49 (hG : Steady G) {y : Cat} (h : y.fine) {lo hi : Ix} (h1 : lo.le hi) (h2 : hi.lt y.size) {v : Vp} (hv : v.ok 2) : Spec Tryz.prog G 47 [y.raw.dat, lo.dat, hi.dat, v.dat] (FSp ((y.bx lo hi).lo v.pr.fc) ((y.bx lo hi).hi v.pr.fc)) := by
  have kb := KB_eq
  have sm := Cat.bx_small h h1 h2
  have fn := Cat.bx_fine h h1 h2
  obtain ⟨a0, a1, a2, a3⟩ := h1
  obtain ⟨b0, b1, b2, b3⟩ := h2
  have c0 : lo.g < y.g.length := Nat.lt_of_le_of_lt a0 b0
  have c1 : lo.a < y.a.length := Nat.lt_of_le_of_lt a1 b1
  have c2 : lo.b < y.b.length := Nat.lt_of_le_of_lt a2 b2
  have c3 : lo.c < y.c.length := Nat.lt_of_le_of_lt a3 b3
  have d0 : hi.g < y.g.length := b0
  have d1 : hi.a < y.a.length := b1
  have d2 : hi.b < y.b.length := b2
  have d3 : hi.c < y.c.length := b3
  have rw' := Row_ok (G := G) hG hv (by omega)
  have ro := Vp.row_ok hv
  have fo := Vp.fc_ok hv
  obtain ⟨f0, f1, f2, f3⟩ := fn
  have z : SzQ 1 (0 : Rat) := sz_zero (by omega)
  have m1 := RFMul_spec (G := G) hG sz_2.isQ ro.1.isQ (by omega) (by omega)
  have m2 := RFMul_spec (G := G) hG sz_2.isQ ro.2.1.isQ (by omega) (by omega)
  have ng := RFNeg_spec (G := G) hG sz_2.isQ (by omega)
  have m3 := RFMul_spec (G := G) hG sz_2.neg.isQ ro.2.2.isQ (by omega) (by omega)
  have k1 : 2 * v.pr.row.a = v.pr.fc.gc := rfl
  have k2 : 2 * v.pr.row.b = v.pr.fc.ga := by show 2 * (-v.pr.c) = -(2 * v.pr.c); grind
  have k3 : -2 * v.pr.row.v = v.pr.fc.ac := by show -2 * (v.pr.c * v.pr.d + v.pr.s * v.pr.t) = -(2 * (v.pr.c * v.pr.d + v.pr.s * v.pr.t)); grind
  rw [k1] at m1
  rw [k2] at m2
  rw [k3] at m3
  have r1 := RTerm (G := G) hG sz_1 sm.g sm.g sm.G sm.G f0.1 f0.1 f0.2 f0.2 (by omega)
  have r2 := RTerm (G := G) hG sz_1 sm.a sm.a sm.A sm.A f1.1 f1.1 f1.2 f1.2 (by omega)
  have r3 := RTerm (G := G) hG sz_1 sm.r sm.r sm.R sm.R f3.1 f3.1 f3.2 f3.2 (by omega)
  have r4 := RTerm (G := G) hG sz_m1 sm.b sm.b sm.B sm.B f2.1 f2.1 f2.2 f2.2 (by omega)
  have r5 := RTerm (G := G) hG fo.gc sm.g sm.r sm.G sm.R f0.1 f3.1 f0.2 f3.2 (by omega)
  have r6 := RTerm (G := G) hG fo.ga sm.g sm.a sm.G sm.A f0.1 f1.1 f0.2 f1.2 (by omega)
  have r7 := RTerm (G := G) hG fo.ac sm.a sm.r sm.A sm.R f1.1 f3.1 f1.2 f3.2 (by omega)
  have t1 := tLo_sz sz_1 sm.g sm.g sm.G sm.G
  have t2 := tLo_sz sz_1 sm.a sm.a sm.A sm.A
  have t3 := tLo_sz sz_1 sm.r sm.r sm.R sm.R
  have t4 := tLo_sz sz_m1 sm.b sm.b sm.B sm.B
  have t5 := tLo_sz fo.gc sm.g sm.r sm.G sm.R
  have t6 := tLo_sz fo.ga sm.g sm.a sm.G sm.A
  have t7 := tLo_sz fo.ac sm.a sm.r sm.A sm.R
  have p1 := z.add t1.1
  have q1 := z.add t1.2
  have p2 := p1.add t2.1
  have q2 := q1.add t2.2
  have p3 := p2.add t3.1
  have q3 := q2.add t3.2
  have p4 := p3.add t4.1
  have q4 := q3.add t4.2
  have p5 := p4.add t5.1
  have q5 := q4.add t5.2
  have p6 := p5.add t6.1
  have q6 := q5.add t6.2
  exact Spec.of_run hG Tryz.func47 (ro := [4, 5, 6, 7]) (m := 60)
    [.call (CLists hG y.raw),
     .eq 29 (Eq.refl (nat lo.g)), .prop (atR c0), .prop (loR c0), .eq 31 (aggR c0), .eq 35 (Eq.refl (nat hi.g)), .prop (atR d0), .prop (loR d0), .eq 37 (aggR d0),
     .eq 29 (Eq.refl (nat lo.a)), .prop (atR c1), .prop (loR c1), .eq 31 (aggR c1), .eq 35 (Eq.refl (nat hi.a)), .prop (atR d1), .prop (loR d1), .eq 37 (aggR d1),
     .eq 29 (Eq.refl (nat lo.b)), .prop (atR c2), .prop (loR c2), .eq 31 (aggR c2), .eq 35 (Eq.refl (nat hi.b)), .prop (atR d2), .prop (loR d2), .eq 37 (aggR d2),
     .eq 29 (Eq.refl (nat lo.c)), .prop (atR c3), .prop (loR c3), .eq 31 (aggR c3), .eq 35 (Eq.refl (nat hi.c)), .prop (atR d3), .prop (loR d3), .eq 37 (aggR d3),
     .call rw', .call (ROne hG), .call (RMinus hG), .call (RTwo hG), .call r1, .call r2, .call r3, .call r4, .call m1, .call r5, .call m2, .call r6, .call ng, .call m3, .call r7,
     .call (RFAdd_spec hG z.isQ t1.1.isQ (by omega) (by omega)), .call (RFAdd_spec hG z.isQ t1.2.isQ (by omega) (by omega)),
     .call (RFAdd_spec hG p1.isQ t2.1.isQ (by omega) (by omega)), .call (RFAdd_spec hG q1.isQ t2.2.isQ (by omega) (by omega)),
     .call (RFAdd_spec hG p2.isQ t3.1.isQ (by omega) (by omega)), .call (RFAdd_spec hG q2.isQ t3.2.isQ (by omega) (by omega)),
     .call (RFAdd_spec hG p3.isQ t4.1.isQ (by omega) (by omega)), .call (RFAdd_spec hG q3.isQ t4.2.isQ (by omega) (by omega)),
     .call (RFAdd_spec hG p4.isQ t5.1.isQ (by omega) (by omega)), .call (RFAdd_spec hG q4.isQ t5.2.isQ (by omega) (by omega)),
     .call (RFAdd_spec hG p5.isQ t6.1.isQ (by omega) (by omega)), .call (RFAdd_spec hG q5.isQ t6.2.isQ (by omega) (by omega)),
     .call (RFAdd_spec hG p6.isQ t7.1.isQ (by omega) (by omega)), .call (RFAdd_spec hG q6.isQ t7.2.isQ (by omega) (by omega))] (by kernel_rfl)
def rlInv (y : Cat) (lo hi : Ix) (i : Nat) (s : Rat) : St :=
  lay 48 [(3, .rptr y.raw.cells), (4, .rptr lo.cells), (5, .rptr hi.cells), (6, .ptr 0 0), (7, .ptr 1 0), (13, rowS RPr.cells (y.p.map Vp.raw)), (14, nat (y.p.map Vp.raw).length), (15, nat i)] [(0, zeroF), (1, cQ s)]
theorem rl_round (hG : Steady G) {y : Cat} (h : y.fine) {lo hi : Ix} (h1 : lo.le hi) (h2 : hi.lt y.size) {i : Nat} (hi' : i < y.p.length) :
    Goes Tryz.prog G 0 (loopOf Tryz.f20 0) (rlInv y lo hi i ((y.bx lo hi).sumN y.p i)) .normal (rlInv y lo hi (i + 1) ((y.bx lo hi).sumN y.p (i + 1))) := by
  have kb := KB_eq
  have l4 := h.2.1.2
  have sm := Cat.bx_small h h1 h2
  have e := aggP hi'
  have ok := h.2.2 _ (getD_mem hi' Vp.none)
  have ss := sumN_sz sm h.2.2 i (by omega)
  show Goes _ _ _ _ _ _ (rlInv y lo hi (i + 1) ((y.bx lo hi).sumN y.p i + leastQ ((y.bx lo hi).lo (y.p.getD i Vp.none).pr.fc) ((y.bx lo hi).hi (y.p.getD i Vp.none).pr.fc)))
  have so := bx_lo_sz sm (Vp.fc_ok ok)
  have en := Enclose49 (G := G) hG h h1 h2 ok
  have lh := Bx.lo_le (Cat.bx_fine h h1 h2) (y.p.getD i Vp.none).pr.fc
  have n3 := nat_succ' (n := y.p.length) hi' (by omega)
  generalize y.p.getD i Vp.none = v at *
  generalize (y.bx lo hi).lo v.pr.fc = a at *
  generalize (y.bx lo hi).hi v.pr.fc = b at *
  generalize (y.bx lo hi).sumN y.p i = s at *
  have s1 := RFSign_spec (G := G) hG so.1.isQ (by omega)
  have s2 := RFSign_spec (G := G) hG so.2.isQ (by omega)
  have m1 := RFMul_spec (G := G) hG so.1.isQ so.1.isQ (by omega) (by omega)
  have m2 := RFMul_spec (G := G) hG so.2.isQ so.2.isQ (by omega) (by omega)
  have a1 := RFAdd_spec (G := G) hG ss.isQ (so.1.mul so.1).isQ (by omega) (by omega)
  have a2 := RFAdd_spec (G := G) hG ss.isQ (so.2.mul so.2).isQ (by omega) (by omega)
  unfold leastQ
  by_cases g1 : 0 < a
  · rw [if_pos g1]
    have g2 : ¬ b < 0 := by grind
    exact Goes.of_run hG (ro := []) (m := 60) (lay_len ..)
      [.eq 16 (Lw.eqB (ltP hi')), .prop (atP hi'), .prop (loP hi'), .eq 18 e, .call en, .call s1, .eq 27 (Lw.eqB (sgn_gtT g1)), .call m1, .call a1, .call s2, .eq 38 (Lw.eqB (sgn_lt_false g2)), .eq 46 (eqS n3)] (by kernel_rfl)
  · rw [if_neg g1]
    by_cases g2 : b < 0
    · rw [if_pos g2]
      exact Goes.of_run hG (ro := []) (m := 60) (lay_len ..)
        [.eq 16 (Lw.eqB (ltP hi')), .prop (atP hi'), .prop (loP hi'), .eq 18 e, .call en, .call s1, .eq 27 (Lw.eqB (sgn_gtF g1)), .call s2, .eq 38 (Lw.eqB (sgn_lt_true g2)), .call m2, .call a2, .eq 46 (eqS n3)] (by kernel_rfl)
    · rw [if_neg g2, Rat.add_zero]
      exact Goes.of_run hG (ro := []) (m := 60) (lay_len ..)
        [.eq 16 (Lw.eqB (ltP hi')), .prop (atP hi'), .prop (loP hi'), .eq 18 e, .call en, .call s1, .eq 27 (Lw.eqB (sgn_gtF g1)), .call s2, .eq 38 (Lw.eqB (sgn_lt_false g2)), .eq 46 (eqS n3)] (by kernel_rfl)
theorem RLower49 (hG : Steady G) {y : Cat} (h : y.fine) {lo hi : Ix} (h1 : lo.le hi) (h2 : hi.lt y.size) : Spec Tryz.prog G 20 [y.raw.dat, lo.dat, hi.dat] (F (y.low lo hi)) := by
  have lp := Abs.count (P := Tryz.prog) (Good := G) (gb := 0) (body := loopOf Tryz.f20 0) (e := .exit 0) (s' := rlInv y lo hi y.p.length ((y.bx lo hi).sumN y.p y.p.length)) (fun i => rlInv y lo hi i ((y.bx lo hi).sumN y.p i)) y.p.length (fun i => lay_len ..) (by intro h; cases h)
    (fun i hi => rl_round hG h h1 h2 hi) (by generalize (y.bx lo hi).sumN y.p y.p.length = s; exact Goes.of_run hG (ro := []) (m := 60) (lay_len ..) [.eq 16 (Lw.eqB (ltPF y.p))] (by kernel_rfl))
  rw [sumN_low] at lp
  show Spec _ _ _ _ (F ((y.bx lo hi).low (y.p.map Vp.pr) 0))
  generalize (y.bx lo hi).low (y.p.map Vp.pr) 0 = s at lp
  exact Spec.of_run hG Tryz.func20 (ro := [3, 4, 5]) (m := 60) [.code lp] (by kernel_rfl)
theorem RCost49 (hG : Steady G) {y : Cat} (h : y.fine) {x : Ix} (h2 : x.lt y.size) : Spec Tryz.prog G 18 [y.raw.dat, x.dat] (F (y.low x x)) :=
  Spec.of_run hG Tryz.func18 (ro := [2, 3]) (m := 60) [.call (RLower49 hG h ⟨Nat.le_refl _, Nat.le_refl _, Nat.le_refl _, Nat.le_refl _⟩ h2)] (by kernel_rfl)
end Lw
