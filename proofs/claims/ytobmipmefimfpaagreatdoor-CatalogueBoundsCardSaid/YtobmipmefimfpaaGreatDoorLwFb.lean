/- Generators and pairs: data, checks, equations. No condition. -/
import Derived.Test.YtobmipmefimfpaaGreatDoorLwFa
namespace Lw
open Go Go.RowKit Go.Proofs

/-! ### data -/
structure RPr where
  i : RTn
  o : RTn
structure RGn where
  g : Raw
  a : Raw
  c : Raw
  b : Raw
def RPr.cells (r : RPr) : List D := [bool r.i.t.s, rowW r.i.t.n, rowW r.i.t.d, bool r.i.h, bool r.o.t.s, rowW r.o.t.n, rowW r.o.t.d, bool r.o.h]
def RGn.cells (r : RGn) : List D := [bool r.g.s, rowW r.g.n, rowW r.g.d, bool r.a.s, rowW r.a.n, rowW r.a.d, bool r.c.s, rowW r.c.n, rowW r.c.d, bool r.b.s, rowW r.b.n, rowW r.b.d]
def RPr.dat (r : RPr) : D := .agg r.cells
def RGn.dat (r : RGn) : D := .agg r.cells
theorem RPr.cells_len (r : RPr) : r.cells.length = 8 := rfl
def RPr.ok (k : Nat) (r : RPr) : Prop := r.i.ok k ∧ r.o.ok k
def RGn.ok (k : Nat) (r : RGn) : Prop := r.g.ok k ∧ r.a.ok k ∧ r.c.ok k ∧ r.b.ok k
def RPr.valid (r : RPr) : Bool := r.i.valid && r.o.valid
def RGn.valid (r : RGn) : Bool := r.g.valid && (r.a.valid && (r.c.valid && r.b.valid))
def RPr.digs (r : RPr) : Prop := r.i.digs ∧ r.o.digs
def RGn.digs (r : RGn) : Prop := (Dig r.g.n ∧ Dig r.g.d) ∧ (Dig r.a.n ∧ Dig r.a.d) ∧ (Dig r.c.n ∧ Dig r.c.d) ∧ (Dig r.b.n ∧ Dig r.b.d)
def RPr.short (r : RPr) : Prop := r.i.t.n.length ≤ 2 ∧ r.i.t.d.length ≤ 2 ∧ r.o.t.n.length ≤ 2 ∧ r.o.t.d.length ≤ 2
def Raw.len8 (r : Raw) : Prop := r.n.length ≤ 8 ∧ r.d.length ≤ 8
def RGn.short (r : RGn) : Prop := r.g.len8 ∧ r.a.len8 ∧ r.c.len8 ∧ r.b.len8
instance (r : RPr) : Decidable r.short := by unfold RPr.short; infer_instance
instance (r : Raw) : Decidable r.len8 := by unfold Raw.len8; infer_instance
instance (r : RGn) : Decidable r.short := by unfold RGn.short; infer_instance
def RPr.zero : RPr := ⟨⟨⟨false, [], []⟩, false⟩, ⟨⟨false, [], []⟩, false⟩⟩
theorem RPr.short_ok {r : RPr} (h : r.digs) (s : r.short) : r.ok 2 := ⟨⟨h.1.1, h.1.2, s.1, s.2.1, by omega⟩, ⟨h.2.1, h.2.2, s.2.2.1, s.2.2.2, by omega⟩⟩
theorem RGn.short_ok {r : RGn} (h : r.digs) (s : r.short) : r.ok 8 := ⟨⟨h.1.1, h.1.2, s.1.1, s.1.2, by omega⟩, ⟨h.2.1.1, h.2.1.2, s.2.1.1, s.2.1.2, by omega⟩, ⟨h.2.2.1.1, h.2.2.1.2, s.2.2.1.1, s.2.2.1.2, by omega⟩, ⟨h.2.2.2.1, h.2.2.2.2, s.2.2.2.1, s.2.2.2.2, by omega⟩⟩
/-- A valid pair. -/
structure Vp where
  t : Rat
  h : Bool
  u : Rat
  k : Bool
def Vp.raw (v : Vp) : RPr := ⟨⟨rawOf v.t, v.h⟩, ⟨rawOf v.u, v.k⟩⟩
def Vp.dat (v : Vp) : D := v.raw.dat
def Vp.ok (n : Nat) (v : Vp) : Prop := SzQ n v.t ∧ SzQ n v.u ∧ (v.h = true → v.t = 0) ∧ (v.k = true → v.u = 0)
def Vp.pr (v : Vp) : Pr := ⟨cosT v.t v.h, sinT v.t v.h, cosT v.u v.k, sinT v.u v.k⟩
theorem Vp.unit (v : Vp) : v.pr.unit := ⟨unit_T v.t v.h, unit_T v.u v.k⟩
def Gn.raw (x : Gn) : RGn := ⟨rawOf x.g, rawOf x.a, rawOf x.c, rawOf x.b⟩
def Gn.dat (x : Gn) : D := x.raw.dat
def Gn.ok (n : Nat) (x : Gn) : Prop := SzQ n x.g ∧ SzQ n x.a ∧ SzQ n x.c ∧ SzQ n x.b
theorem Vp.raw_ok {n : Nat} {v : Vp} (h : v.ok n) : v.raw.ok n := ⟨h.1.ok, h.2.1.ok⟩
theorem Gn.raw_ok {n : Nat} {x : Gn} (h : x.ok n) : x.raw.ok n := ⟨h.1.ok, h.2.1.ok, h.2.2.1.ok, h.2.2.2.ok⟩
theorem Vp.raw_valid {n : Nat} {v : Vp} (h : v.ok n) : v.raw.valid = true := by
  unfold RPr.valid
  show ((RTn.mk (rawOf v.t) v.h).valid && (RTn.mk (rawOf v.u) v.k).valid) = true
  rw [FTn_valid h.2.2.1, FTn_valid h.2.2.2]; rfl
theorem Gn.raw_valid (x : Gn) : x.raw.valid = true := by
  unfold RGn.valid
  show ((rawOf x.g).valid && ((rawOf x.a).valid && ((rawOf x.c).valid && (rawOf x.b).valid))) = true
  simp only [rawOf_valid, Bool.and_self]
theorem RPr.valid_elim {n : Nat} {r : RPr} (hk : r.ok n) (hv : r.valid = true) : ∃ v : Vp, v.ok n ∧ r = v.raw := by
  obtain ⟨⟨t, h⟩, ⟨u, k⟩⟩ := r
  unfold RPr.valid at hv
  simp only [Bool.and_eq_true] at hv
  have c1 := (RTn.canon hv.1).2
  have c2 := (RTn.canon hv.2).2
  obtain ⟨h1, h2⟩ := hv
  unfold RTn.valid at h1 h2
  simp only [Bool.and_eq_true] at h1 h2
  refine ⟨⟨t.q, h, u.q, k⟩, ⟨Raw.ok.sz hk.1, Raw.ok.sz hk.2, c1, c2⟩, ?_⟩
  unfold Vp.raw
  show (⟨⟨t, h⟩, ⟨u, k⟩⟩ : RPr) = ⟨⟨rawOf t.q, h⟩, ⟨rawOf u.q, k⟩⟩
  rw [← Raw.canon h1.1, ← Raw.canon h2.1]
theorem RGn.valid_elim {n : Nat} {r : RGn} (hk : r.ok n) (hv : r.valid = true) : ∃ x : Gn, x.ok n ∧ r = x.raw := by
  obtain ⟨g, a, c, b⟩ := r
  unfold RGn.valid at hv
  simp only [Bool.and_eq_true] at hv
  obtain ⟨h1, h2, h3, h4⟩ := hv
  refine ⟨⟨g.q, a.q, c.q, b.q⟩, ⟨Raw.ok.sz hk.1, Raw.ok.sz hk.2.1, Raw.ok.sz hk.2.2.1, Raw.ok.sz hk.2.2.2⟩, ?_⟩
  unfold Gn.raw
  show (⟨g, a, c, b⟩ : RGn) = ⟨rawOf g.q, rawOf a.q, rawOf c.q, rawOf b.q⟩
  rw [← Raw.canon h1, ← Raw.canon h2, ← Raw.canon h3, ← Raw.canon h4]

variable {G : World → Prop}

/-! ### checks of the program -/
theorem GPvalid (hG : Steady G) {k : Nat} {r : RPr} (hr : r.ok k) (hk : k ≤ KB) : Spec Tryz.prog G 62 [r.dat] (bool r.valid) := by
  unfold RPr.valid
  cases h1 : r.i.valid with
  | false =>
    have c1 := TCheck_bad (G := G) hG hr.1 hk h1
    exact Spec.of_run hG Tryz.func62 (ro := [1]) (m := 40) [.call c1] (by kernel_rfl)
  | true =>
    have c1 := TCheck_ok (G := G) hG hr.1 hk h1
    cases h2 : r.o.valid with
    | false =>
      have c2 := TCheck_bad (G := G) hG hr.2 hk h2
      exact Spec.of_run hG Tryz.func62 (ro := [1]) (m := 40) [.call c1, .call c2] (by kernel_rfl)
    | true =>
      have c2 := TCheck_ok (G := G) hG hr.2 hk h2
      exact Spec.of_run hG Tryz.func62 (ro := [1]) (m := 40) [.call c1, .call c2] (by kernel_rfl)
theorem GRPair (hG : Steady G) {k : Nat} {r : RPr} (hr : r.ok k) (hk : k ≤ KB) : Spec Tryz.prog G 74 [r.dat] (bool r.valid) := by
  have c1 := PRTurn_spec (G := G) hG hr.1 hk
  have c2 := PRTurn_spec (G := G) hG hr.2 hk
  unfold RPr.valid
  cases h1 : r.i.valid with
  | false =>
    rw [h1] at c1
    exact Spec.of_run hG Tryz.func74 (ro := [1]) (m := 40) [.call c1] (by kernel_rfl)
  | true =>
    rw [h1] at c1
    exact Spec.of_run hG Tryz.func74 (ro := [1]) (m := 40) [.call c1, .call c2] (by kernel_rfl)
/-- The number of the error of a generator. -/
def RGn.code (r : RGn) : Int := if r.valid = false then 2 else if r.g.q ≤ 0 ∨ r.b.q ≤ 0 then 3 else if r.a.q = 0 ∨ r.c.q = 0 then 8 else 0
def errOf (k : Int) : D := if k = 0 then .lit .nilIface else errno k
theorem sgn_le_true {a : Rat} (h : a ≤ 0) : decide (sgn a ≤ 0) = true := by
  refine decide_eq_true ?_
  rcases sgn_cases a with ⟨h1, e⟩ | ⟨h1, e⟩ | ⟨h1, e⟩
  · omega
  · omega
  · exact absurd h1 (Rat.not_lt.2 h)
theorem sgn_le_false {a : Rat} (h : ¬ a ≤ 0) : decide (sgn a ≤ 0) = false := by
  refine decide_eq_false fun h2 => h ?_
  rcases sgn_cases a with ⟨h1, e⟩ | ⟨h1, e⟩ | ⟨h1, e⟩
  · exact Rat.le_of_lt h1
  · rw [h1]; exact Rat.le_refl
  · omega
theorem code_fine {x : Gn} (h : x.raw.code = 0) : x.fine := by
  unfold RGn.code at h
  rw [Gn.raw_valid, if_neg (by simp)] at h
  have e1 : x.raw.g.q = x.g := rawOf_q _
  have e2 : x.raw.a.q = x.a := rawOf_q _
  have e3 : x.raw.c.q = x.c := rawOf_q _
  have e4 : x.raw.b.q = x.b := rawOf_q _
  rw [e1, e2, e3, e4] at h
  by_cases h1 : x.g ≤ 0 ∨ x.b ≤ 0
  · rw [if_pos h1] at h; cases h
  · rw [if_neg h1] at h
    by_cases h2 : x.a = 0 ∨ x.c = 0
    · rw [if_pos h2] at h; cases h
    · simp only [not_or] at h1 h2
      exact ⟨Rat.not_le.1 h1.1, Rat.not_le.1 h1.2, h2.1, h2.2⟩
theorem fine_code {x : Gn} (h : x.fine) : x.raw.code = 0 := by
  have e1 : x.raw.g.q = x.g := rawOf_q _
  have e2 : x.raw.a.q = x.a := rawOf_q _
  have e3 : x.raw.c.q = x.c := rawOf_q _
  have e4 : x.raw.b.q = x.b := rawOf_q _
  unfold RGn.code
  rw [Gn.raw_valid, if_neg (by simp), e1, e2, e3, e4, if_neg (by rintro (g | g); (· exact absurd h.1 (Rat.not_lt.2 g)); exact absurd h.2.1 (Rat.not_lt.2 g)), if_neg (by rintro (g | g); (· exact h.2.2.1 g); exact h.2.2.2 g)]
theorem GCheck (hG : Steady G) {k : Nat} {r : RGn} (hr : r.ok k) (hk : k ≤ KB) : Spec Tryz.prog G 61 [r.dat] (errOf r.code) := by
  have v1 := FValid_spec (G := G) hG hr.1 hk
  have v2 := FValid_spec (G := G) hG hr.2.1 hk
  have v3 := FValid_spec (G := G) hG hr.2.2.1 hk
  have v4 := FValid_spec (G := G) hG hr.2.2.2 hk
  have s1 := FSign_spec (G := G) hG (Raw.ok.isQ hr.1) hk
  have s2 := FSign_spec (G := G) hG (Raw.ok.isQ hr.2.1) hk
  have s3 := FSign_spec (G := G) hG (Raw.ok.isQ hr.2.2.1) hk
  have s4 := FSign_spec (G := G) hG (Raw.ok.isQ hr.2.2.2) hk
  unfold RGn.code RGn.valid
  cases h1 : r.g.valid with
  | false =>
    rw [h1] at v1
    exact Spec.of_run hG Tryz.func61 (ro := [1]) (m := 60) [.call v1] (by kernel_rfl)
  | true =>
    rw [h1] at v1
    cases h2 : r.a.valid with
    | false =>
      rw [h2] at v2
      exact Spec.of_run hG Tryz.func61 (ro := [1]) (m := 60) [.call v1, .call v2] (by kernel_rfl)
    | true =>
      rw [h2] at v2
      cases h3 : r.c.valid with
      | false =>
        rw [h3] at v3
        exact Spec.of_run hG Tryz.func61 (ro := [1]) (m := 60) [.call v1, .call v2, .call v3] (by kernel_rfl)
      | true =>
        rw [h3] at v3
        cases h4 : r.b.valid with
        | false =>
          rw [h4] at v4
          exact Spec.of_run hG Tryz.func61 (ro := [1]) (m := 60) [.call v1, .call v2, .call v3, .call v4] (by kernel_rfl)
        | true =>
          rw [h4] at v4
          show Spec _ _ _ _ (errOf (if (true && (true && (true && true))) = false then 2 else if r.g.q ≤ 0 ∨ r.b.q ≤ 0 then 3 else if r.a.q = 0 ∨ r.c.q = 0 then 8 else 0))
          rw [if_neg (by simp)]
          by_cases g1 : r.g.q ≤ 0
          · rw [if_pos (.inl g1)]
            exact Spec.of_run hG Tryz.func61 (ro := [1]) (m := 60) [.call v1, .call v2, .call v3, .call v4, .call s1, .eq 27 (Lw.eqB (sgn_le_true g1))] (by kernel_rfl)
          · by_cases g2 : r.b.q ≤ 0
            · rw [if_pos (.inr g2)]
              exact Spec.of_run hG Tryz.func61 (ro := [1]) (m := 60) [.call v1, .call v2, .call v3, .call v4, .call s1, .eq 27 (Lw.eqB (sgn_le_false g1)), .call s4, .eq 32 (Lw.eqB (sgn_le_true g2))] (by kernel_rfl)
            · rw [if_neg (by rintro (h | h); (· exact g1 h); exact g2 h)]
              by_cases g3 : r.a.q = 0
              · rw [if_pos (.inl g3)]
                exact Spec.of_run hG Tryz.func61 (ro := [1]) (m := 60) [.call v1, .call v2, .call v3, .call v4, .call s1, .eq 27 (Lw.eqB (sgn_le_false g1)), .call s4, .eq 32 (Lw.eqB (sgn_le_false g2)), .call s2, .eq 38 (Lw.eqB (beq_iff_eq.2 (sgn_zero.2 g3)))] (by kernel_rfl)
              · by_cases g4 : r.c.q = 0
                · rw [if_pos (.inr g4)]
                  exact Spec.of_run hG Tryz.func61 (ro := [1]) (m := 60) [.call v1, .call v2, .call v3, .call v4, .call s1, .eq 27 (Lw.eqB (sgn_le_false g1)), .call s4, .eq 32 (Lw.eqB (sgn_le_false g2)), .call s2, .eq 38 (Lw.eqB (sgn_eq0 g3)), .call s3, .eq 43 (Lw.eqB (beq_iff_eq.2 (sgn_zero.2 g4)))] (by kernel_rfl)
                · rw [if_neg (by rintro (h | h); (· exact g3 h); exact g4 h)]
                  exact Spec.of_run hG Tryz.func61 (ro := [1]) (m := 60) [.call v1, .call v2, .call v3, .call v4, .call s1, .eq 27 (Lw.eqB (sgn_le_false g1)), .call s4, .eq 32 (Lw.eqB (sgn_le_false g2)), .call s2, .eq 38 (Lw.eqB (sgn_eq0 g3)), .call s3, .eq 43 (Lw.eqB (sgn_eq0 g4))] (by kernel_rfl)
/-! ### equations -/
def cQ (q : Rat) : List D := [bool (rawOf q).s, rowW (rawOf q).n, rowW (rawOf q).d]
def FRw (r : Rw) : D := .agg (cQ r.a ++ (cQ r.b ++ cQ r.v))
def FRow (r : Rw) : D := .agg (cQ r.a ++ (cQ r.b ++ (cQ 1 ++ cQ r.v)))
/-- Sizes of a row. -/
def Rw.ok (k : Nat) (r : Rw) : Prop := SzQ k r.a ∧ SzQ k r.b ∧ SzQ k r.v
theorem Vp.row_ok {n : Nat} {v : Vp} (h : v.ok n) : v.pr.row.ok (16 * n + 17) := by
  have c1 := h.1.cosT v.h
  have s1 := h.1.sinT v.h
  have c2 := h.2.1.cosT v.k
  have s2 := h.2.1.sinT v.k
  exact ⟨c2.mono (by omega), c1.neg.mono (by omega), ((c1.mul c2).add (s1.mul s2)).mono (by omega)⟩
theorem Equation_ok (hG : Steady G) {n : Nat} {v : Vp} (h : v.ok n) (hk : 16 * n + 17 ≤ KB) : Spec Tryz.prog G 97 [v.dat] (.tup [FRw v.pr.row, .lit .nilIface]) := by
  have d1 := PDir_ok (G := G) hG h.1 h.2.2.1 (by omega)
  have d2 := PDir_ok (G := G) hG h.2.1 h.2.2.2 (by omega)
  have c1 := h.1.cosT v.h
  have s1 := h.1.sinT v.h
  have c2 := h.2.1.cosT v.k
  have s2 := h.2.1.sinT v.k
  have ng := FNeg_spec (G := G) hG c1.isQ (by omega)
  have m1 := FMul_spec (G := G) hG c1.isQ c2.isQ (by omega) (by omega)
  have m2 := FMul_spec (G := G) hG s1.isQ s2.isQ (by omega) (by omega)
  have ad := FAdd_spec (G := G) hG (c1.mul c2).isQ (s1.mul s2).isQ (by omega) (by omega)
  exact Spec.of_run hG Tryz.func97 (ro := [1]) (m := 60) [.call d1, .call d2, .call ng, .call m1, .call m2, .call ad] (by kernel_rfl)
theorem Row_ok (hG : Steady G) {n : Nat} {v : Vp} (h : v.ok n) (hk : 16 * n + 17 ≤ KB) : Spec Tryz.prog G 81 [v.dat] (FRow v.pr.row) := by
  have d1 := PRdir_spec (G := G) (h := v.h) hG h.1 (by omega)
  have d2 := PRdir_spec (G := G) (h := v.k) hG h.2.1 (by omega)
  have c1 := h.1.cosT v.h
  have s1 := h.1.sinT v.h
  have c2 := h.2.1.cosT v.k
  have s2 := h.2.1.sinT v.k
  have ng := RFNeg_spec (G := G) hG c1.isQ (by omega)
  have m1 := RFMul_spec (G := G) hG c1.isQ c2.isQ (by omega) (by omega)
  have m2 := RFMul_spec (G := G) hG s1.isQ s2.isQ (by omega) (by omega)
  have ad := RFAdd_spec (G := G) hG (c1.mul c2).isQ (s1.mul s2).isQ (by omega) (by omega)
  exact Spec.of_run hG Tryz.func81 (ro := [1]) (m := 60) [.call d1, .call d2, .call ng, .call (ROne hG), .call m1, .call m2, .call ad] (by kernel_rfl)

/-! ### Error -/
theorem Squares_ok (hG : Steady G) {n : Nat} {x : Gn} (h : x.ok n) (hk : 6 * n + 2 ≤ KB) : Spec Tryz.prog G 100 [x.dat] (F x.sum) := by
  obtain ⟨h1, h2, h3, h4⟩ := h
  have q1 : Spec Tryz.prog G 129 [F x.g] (F (x.g * x.g)) := Spec.of_run hG Tryz.func129 (ro := [1]) (m := 40) [.call (FMul_spec hG h1.isQ h1.isQ (by omega) (by omega))] (by kernel_rfl)
  have q2 : Spec Tryz.prog G 129 [F x.a] (F (x.a * x.a)) := Spec.of_run hG Tryz.func129 (ro := [1]) (m := 40) [.call (FMul_spec hG h2.isQ h2.isQ (by omega) (by omega))] (by kernel_rfl)
  have q3 : Spec Tryz.prog G 129 [F x.c] (F (x.c * x.c)) := Spec.of_run hG Tryz.func129 (ro := [1]) (m := 40) [.call (FMul_spec hG h3.isQ h3.isQ (by omega) (by omega))] (by kernel_rfl)
  have a1 := FAdd_spec (G := G) hG (h2.mul h2).isQ (h3.mul h3).isQ (by omega) (by omega)
  have a2 := FAdd_spec (G := G) hG (h1.mul h1).isQ ((h2.mul h2).add (h3.mul h3)).isQ (by omega) (by omega)
  exact Spec.of_run hG Tryz.func100 (ro := [1]) (m := 60) [.call q1, .call q2, .call q3, .call a1, .call a2] (by kernel_rfl)
theorem Gn.sum_sz {n : Nat} {x : Gn} (h : x.ok n) : SzQ (6 * n + 2) x.sum := ((h.1.mul h.1).add ((h.2.1.mul h.2.1).add (h.2.2.1.mul h.2.2.1))).mono (by omega)
theorem Gn.two_sz {n : Nat} {x : Gn} (h : x.ok n) : SzQ (2 * n + 1) x.two := (sz_2.mul (h.2.1.mul h.2.2.1)).mono (by omega)
theorem Twice_ok (hG : Steady G) {n : Nat} {x : Gn} (h : x.ok n) (hk : 6 * n + 2 ≤ KB) : Spec Tryz.prog G 101 [x.dat] (F x.two) := by
  obtain ⟨h1, h2, h3, h4⟩ := h
  have m1 := FMul_spec (G := G) hG h2.isQ h3.isQ (by omega) (by omega)
  have m2 := FMul_spec (G := G) hG sz_2.isQ (h2.mul h3).isQ (by omega) (by omega)
  exact Spec.of_run hG Tryz.func101 (ro := [1]) (m := 60) [.call (FTwo hG), .call m1, .call m2] (by kernel_rfl)
theorem Gn.k_sz {n : Nat} {x : Gn} (h : x.ok n) : SzQ (2 * n) x.k1 ∧ SzQ (2 * n) x.k2 ∧ SzQ (9 * n + 4) x.k3 :=
  ⟨(h.1.div h.2.1).mono (by omega), (h.1.div h.2.2.1).mono (by omega), (((Gn.sum_sz h).sub h.2.2.2).div (Gn.two_sz h)).mono (by omega)⟩
theorem Gn.err_sz {n k : Nat} {x : Gn} {r : Rw} (h : x.ok n) (hr : r.ok k) : SzQ (13 * n + 3 * k + 8) (x.err r) := by
  obtain ⟨k1, k2, k3⟩ := Gn.k_sz h
  exact ((((hr.1.mul k1).add (hr.2.1.mul k2)).add k3).sub hr.2.2).mono (by omega)
theorem Error_ok (hG : Steady G) {n k : Nat} {x : Gn} {v : Vp} (hx : x.ok n) (hf : x.fine) (hv : v.ok k) (hk : 13 * n + 48 * k + 100 ≤ KB) : Spec Tryz.prog G 63 [x.dat, v.dat] (.tup [F (x.err v.pr.row), .lit .nilIface]) := by
  have ck := GCheck (G := G) hG (Gn.raw_ok hx) (by omega)
  rw [fine_code hf] at ck
  have vl := GPvalid (G := G) hG (Vp.raw_ok hv) (by omega)
  rw [Vp.raw_valid hv] at vl
  have eq := Equation_ok (G := G) hG hv (by omega)
  have hr := Vp.row_ok hv
  have d1 := FDiv_spec (G := G) hG hx.1.isQ hx.2.1.isQ (by omega) (by omega) hf.2.2.1
  have d2 := FDiv_spec (G := G) hG hx.1.isQ hx.2.2.1.isQ (by omega) (by omega) hf.2.2.2
  have sq := Squares_ok (G := G) hG hx (by omega)
  have tw := Twice_ok (G := G) hG hx (by omega)
  have ss := Gn.sum_sz hx
  have st := Gn.two_sz hx
  have sb := FSub_spec (G := G) hG ss.isQ hx.2.2.2.isQ (by omega) (by omega)
  have d3 := FDiv_spec (G := G) hG (ss.sub hx.2.2.2).isQ st.isQ (by omega) (by omega) (Gn.two_ne hf)
  obtain ⟨k1, k2, k3⟩ := Gn.k_sz hx
  have m1 := FMul_spec (G := G) hG hr.1.isQ k1.isQ (by omega) (by omega)
  have m2 := FMul_spec (G := G) hG hr.2.1.isQ k2.isQ (by omega) (by omega)
  have a1 := FAdd_spec (G := G) hG (hr.1.mul k1).isQ (hr.2.1.mul k2).isQ (by omega) (by omega)
  have a2 := FAdd_spec (G := G) hG ((hr.1.mul k1).add (hr.2.1.mul k2)).isQ k3.isQ (by omega) (by omega)
  have s2 := FSub_spec (G := G) hG (((hr.1.mul k1).add (hr.2.1.mul k2)).add k3).isQ hr.2.2.isQ (by omega) (by omega)
  exact Spec.of_run hG Tryz.func63 (ro := [2, 3]) (m := 60)
    [.call ck, .call vl, .call eq, .call d1, .call d2, .call sq, .call sb, .call tw, .call d3, .call m1, .call m2, .call a1, .call a2, .call s2] (by kernel_rfl)
theorem Error_bad1 (hG : Steady G) {n : Nat} {r : RGn} {p : RPr} (hr : r.ok n) (hk : n ≤ KB) (hc : ¬ r.code = 0) : Spec Tryz.prog G 63 [r.dat, p.dat] (.tup [F 0, errno r.code]) := by
  have ck := GCheck (G := G) hG hr hk
  unfold errOf at ck
  rw [if_neg hc] at ck
  exact Spec.of_run hG Tryz.func63 (ro := [2, 3]) (m := 60) [.call ck] (by kernel_rfl)
theorem Error_bad2 (hG : Steady G) {n : Nat} {r : RGn} {p : RPr} (hr : r.ok n) (hp : p.ok n) (hk : n ≤ KB) (hc : r.code = 0) (hv : p.valid = false) : Spec Tryz.prog G 63 [r.dat, p.dat] (.tup [F 0, errno 2]) := by
  have ck := GCheck (G := G) hG hr hk
  rw [hc] at ck
  have vl := GPvalid (G := G) hG hp hk
  rw [hv] at vl
  exact Spec.of_run hG Tryz.func63 (ro := [2, 3]) (m := 60) [.call ck, .call vl] (by kernel_rfl)
/-! ### Ends -/
def Gn.ax (x : Gn) (p : Pr) : Rat := x.a * p.c
def Gn.ay (x : Gn) (p : Pr) : Rat := x.a * p.s
def Gn.bx (x : Gn) (p : Pr) : Rat := x.g + x.c * p.d
def Gn.by' (x : Gn) (p : Pr) : Rat := x.c * p.t
theorem ends_sz {n k : Nat} {x : Gn} {v : Vp} (hx : x.ok n) (hv : v.ok k) : SzQ (2 * n + 4 * k + 5) (x.ax v.pr) ∧ SzQ (2 * n + 4 * k + 5) (x.ay v.pr) ∧ SzQ (2 * n + 4 * k + 5) (x.bx v.pr) ∧ SzQ (2 * n + 4 * k + 5) (x.by' v.pr) := by
  have c1 := hv.1.cosT v.h
  have s1 := hv.1.sinT v.h
  have c2 := hv.2.1.cosT v.k
  have s2 := hv.2.1.sinT v.k
  exact ⟨(hx.2.1.mul c1).mono (by omega), (hx.2.1.mul s1).mono (by omega), (hx.1.add (hx.2.2.1.mul c2)).mono (by omega), (hx.2.2.1.mul s2).mono (by omega)⟩
end Lw
