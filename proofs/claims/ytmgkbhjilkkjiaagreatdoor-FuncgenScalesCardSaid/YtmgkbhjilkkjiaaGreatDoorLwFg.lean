/- The statements about generators that are made, found, scaled, run. No condition. -/
import Derived.Test.YtmgkbhjilkkjiaaGreatDoorLwFf
namespace Lw
open Go Go.RowKit Go.Proofs

variable {G : World → Prop}

theorem only_dat (g : Raw) : D.agg [bool g.s, rowW g.n, rowW g.d, bool false, rowW [], rowW [], bool false, rowW [], rowW [], bool false, rowW [], rowW []] = (RGn.only g).dat := rfl
/-- Three valid pairs out of a list. -/
theorem three_of {k : Nat} {l : List RPr} (h : ∀ r ∈ l, r.ok k) (hc : threeCode l = 0) : ∃ u v w : Vp, (u.ok k ∧ v.ok k ∧ w.ok k) ∧ l = three3 u v w := by
  unfold threeCode at hc
  by_cases h1 : l.length ≠ 3
  · rw [if_pos h1] at hc; cases hc
  · rw [if_neg h1] at hc
    by_cases h2 : allValid l
    · obtain ⟨vs, o, rfl⟩ := pairs_of h h2
      match vs, o, h1 with
      | [u, v, w], o, _ => exact ⟨u, v, w, ⟨o u (by simp), o v (by simp), o w (by simp)⟩, rfl⟩
      | [], _, h1 => exact absurd (by simp) h1
      | [_], _, h1 => exact absurd (by simp) h1
      | [_, _], _, h1 => exact absurd (by simp) h1
      | _ :: _ :: _ :: _ :: _, _, h1 => exact absurd (by simp) h1
    · rw [if_neg h2] at hc; cases hc

/-! ### FuncgenMakes -/
theorem Makes_three (hG : Steady G) {g : Raw} {u v w : Vp} (hu : u.ok 2) (hv : v.ok 2) (hw : w.ok 2) (hg : g.ok 8) (hs : GShortP (RGn.only g) (three3 u v w)) :
    Spec Tryz.prog G 3 [rowS RPr.cells (three3 u v w), g.dat] (bool true) := by
  have kb := KB_eq
  have aw := awake48_spec (G := G) hG
  have sh := GShort (G := G) hG (RGn.only g) (three3 u v w) (by simp [three3])
  rw [decide_eq_true hs] at sh
  have rt := RThree (G := G) hG (by simp [three3]) (three_ok hu hv hw) (by omega)
  rw [three_code hu hv hw] at rt
  have rv := RFValid_spec (G := G) hG hg (by omega)
  have rs := RFSign_spec (G := G) hG (Raw.ok.isQ hg) (by omega)
  have i2 := Is_err (G := G) hG 2 2
  have i3 := Is_err (G := G) hG 3 3
  have e0 := equal48 (G := G) hG none_gn (by omega)
  have n0 := Num_nil (G := G) hG
  have n15 := Num_err (G := G) hG 15
  have sz := sizes_of (Vp.row_ok hu) (Vp.row_ok hv) (Vp.row_ok hw)
  have s1 : SzQ 794 (kk1 u v w) := sz.k1
  have s2 : SzQ 794 (kk2 u v w) := sz.k2
  have s3 : SzQ 1737 (kk3 u v w) := sz.k3
  have r3 := rats3 (G := G) hG (s1.mono (l := 1737) (by omega)) (s2.mono (by omega)) s3 (by omega)
  have rz := rats0 (G := G) hG
  cases hvg : g.valid with
  | false =>
    rw [hvg] at rv
    have mk := GMake_form (G := G) hu hv hw hG hg (by omega) hvg
    by_cases h0 : nOf u v w = 0
    · exact Spec.of_run hG Tryz.func3 (ro := [3]) (m := 60)
        [.call aw, .call sh, .call (GRatios_zero hG hu hv hw h0), .call mk, .call rt, .call (RRatios_zero hu hv hw hG h0), .call n15, .call rz, .call rv, .call i2, .call e0] (by kernel_rfl)
    · exact Spec.of_run hG Tryz.func3 (ro := [3]) (m := 60)
        [.call aw, .call sh, .call (GRatios_ok hG hu hv hw h0), .call mk, .call rt, .call (RRatios_ok hu hv hw hG h0), .call n0, .call r3, .call rv, .call i2, .call e0] (by kernel_rfl)
  | true =>
    rw [hvg] at rv
    have sq : SzQ 8 g.q := Raw.ok.sz hg
    have ed : g.dat = F g.q := by unfold F; rw [← Raw.canon hvg]
    by_cases hp : g.q ≤ 0
    · have mk := GMake_range (G := G) hu hv hw hG sq (by omega) hp
      rw [← ed] at mk
      by_cases h0 : nOf u v w = 0
      · exact Spec.of_run hG Tryz.func3 (ro := [3]) (m := 60)
          [.call aw, .call sh, .call (GRatios_zero hG hu hv hw h0), .call mk, .call rt, .call (RRatios_zero hu hv hw hG h0), .call n15, .call rz, .call rv, .call rs, .eq 87 (Lw.eqB (sgn_le_true hp)), .call i3, .call e0] (by kernel_rfl)
      · exact Spec.of_run hG Tryz.func3 (ro := [3]) (m := 60)
          [.call aw, .call sh, .call (GRatios_ok hG hu hv hw h0), .call mk, .call rt, .call (RRatios_ok hu hv hw hG h0), .call n0, .call r3, .call rv, .call rs, .eq 87 (Lw.eqB (sgn_le_true hp)), .call i3, .call e0] (by kernel_rfl)
    · by_cases h0 : nOf u v w = 0
      · have mk := GMake_unknown (G := G) hu hv hw hG sq (by omega) hp h0
        have rm := RMake_unknown (G := G) hu hv hw hG (g := g.q) h0
        rw [← ed] at mk rm
        exact Spec.of_run hG Tryz.func3 (ro := [3]) (m := 60)
          [.call aw, .call sh, .call (GRatios_zero hG hu hv hw h0), .call mk, .call rt, .call (RRatios_zero hu hv hw hG h0), .call n15, .call rz, .call rv, .call rs, .eq 87 (Lw.eqB (sgn_le_false hp)), .call rm, .call n15, .call e0] (by kernel_rfl)
      · have ra := GRatios_ok (G := G) hG hu hv hw h0
        have rr := RRatios_ok (G := G) hu hv hw hG h0
        by_cases hz : kk1 u v w = 0 ∨ kk2 u v w = 0
        · have mk := GMake_zero (G := G) hu hv hw hG sq (by omega) hp h0 hz
          have rm := RMake_zero (G := G) hu hv hw hG sq (by omega) h0 hz
          rw [← ed] at mk rm
          have n8 := Num_err (G := G) hG 8
          exact Spec.of_run hG Tryz.func3 (ro := [3]) (m := 60)
            [.call aw, .call sh, .call ra, .call mk, .call rt, .call rr, .call n0, .call r3, .call rv, .call rs, .eq 87 (Lw.eqB (sgn_le_false hp)), .call rm, .call n8, .call e0] (by kernel_rfl)
        · simp only [not_or] at hz
          have mk := GMake_any (G := G) hu hv hw hG sq (by omega) hp h0 hz.1 hz.2
          have rm := RMake_any (G := G) hu hv hw hG sq (by omega) h0 hz.1 hz.2
          rw [← ed] at mk rm
          by_cases hB : (made g.q u v w).b ≤ 0
          · have n16 := Num_err (G := G) hG 16
            exact Spec.of_run hG Tryz.func3 (ro := [3]) (m := 60)
              [.call aw, .call sh, .call ra, .call (mk.1 hB), .call rt, .call rr, .call n0, .call r3, .call rv, .call rs, .eq 87 (Lw.eqB (sgn_le_false hp)), .call (rm.1 hB), .call n16, .call e0] (by kernel_rfl)
          · have eq := equal48 (G := G) hG (made_ok sq hu hv hw (by omega)) (by omega)
            exact Spec.of_run hG Tryz.func3 (ro := [3]) (m := 60)
              [.call aw, .call sh, .call ra, .call (mk.2 hB), .call rt, .call rr, .call n0, .call r3, .call rv, .call rs, .eq 87 (Lw.eqB (sgn_le_false hp)), .call (rm.2 hB), .call n0, .call eq] (by kernel_rfl)
theorem only_ok {g : Raw} (h1 : Dig g.n) (h2 : Dig g.d) {l : List RPr} (hs : GShortP (RGn.only g) l) : g.ok 8 := ⟨h1, h2, hs.1.1.1, hs.1.1.2, by omega⟩
theorem Makes_spec (hG : Steady G) {l : List RPr} {g : Raw} (hl : ∀ p ∈ l, p.digs) (hb : l.length ≤ 9223372036854775807) (h1 : Dig g.n) (h2 : Dig g.d) : Spec Tryz.prog G 3 [rowS RPr.cells l, g.dat] (bool true) := by
  have aw := awake48_spec (G := G) hG
  have sh := GShort (G := G) hG (RGn.only g) l hb
  by_cases hs : GShortP (RGn.only g) l
  case neg =>
    rw [decide_eq_false hs] at sh
    exact Spec.of_run hG Tryz.func3 (ro := [3]) (m := 60) [.call aw, .call sh, .call aw] (by kernel_rfl)
  have kb := KB_eq
  have kg := only_ok h1 h2 hs
  have kl : ∀ p ∈ l, p.ok 2 := fun p hp => RPr.short_ok (hl p hp) (hs.2.1 p hp)
  by_cases hc : threeCode l = 0
  · obtain ⟨u, v, w, ⟨ou, ov, ow⟩, rfl⟩ := three_of kl hc
    exact Makes_three hG ou ov ow kg hs
  · rw [decide_eq_true hs] at sh
    have rt := RThree (G := G) hG hb kl (by omega)
    have ra := GRatios_bad (G := G) hG hb kl (by omega) hc
    have mk := GMake_bad (G := G) (g := g) hG hb kl (by omega) hc
    have nm := Num_err (G := G) hG (threeCode l)
    have e0 := equal48 (G := G) hG none_gn (by omega)
    generalize threeCode l = k at *
    exact Spec.of_run hG Tryz.func3 (ro := [3]) (m := 60)
      [.call aw, .call sh, .call ra, .call mk, .call rt, .eq 37 (Lw.eqB (bne_iff_ne.2 hc)), .call nm, .eq 41 (Lw.eqB (beq_self_eq_true k)), .call nm, .eq 46 (Lw.eqB (beq_self_eq_true k)), .call e0] (by kernel_rfl)

/-! ### three pairs as an array -/
def pairs3 (r1 r2 r3 : RPr) : D := .agg (r1.cells ++ (r2.cells ++ r3.cells))
theorem code3 (a b c : RPr) : threeCode [a, b, c] = 0 ∨ threeCode [a, b, c] = 2 := by
  unfold threeCode
  rw [if_neg (by simp)]
  split
  · exact .inl rfl
  · exact .inr rfl
/-- What Make says of three pairs, whatever they are and whatever the frame. -/
inductive MakeOf (G : World → Prop) (l : List RPr) (g : Raw) : Prop
  | err (k : Int) (h : Spec Tryz.prog G 13 [rowS RPr.cells l, g.dat] (.tup [Gn.none.dat, errno k]))
  | ok (q : Rat) (u v w : Vp) (hq : g = rawOf q) (sq : SzQ 8 q) (hp : ¬ q ≤ 0) (hl : l = three3 u v w) (hu : u.ok 2) (hv : v.ok 2) (hw : w.ok 2) (h0 : ¬ nOf u v w = 0) (h1 : ¬ kk1 u v w = 0) (h2 : ¬ kk2 u v w = 0) (hB : ¬ (made q u v w).b ≤ 0)
      (h : Spec Tryz.prog G 13 [rowS RPr.cells l, g.dat] (.tup [(made q u v w).dat, .lit .nilIface]))
theorem make_of (hG : Steady G) {l : List RPr} {g : Raw} (hb : l.length ≤ 9223372036854775807) (kl : ∀ p ∈ l, p.ok 2) (kg : g.ok 8) : MakeOf G l g := by
  have kb := KB_eq
  by_cases hc : threeCode l = 0
  · obtain ⟨u, v, w, ⟨hu, hv, hw⟩, rfl⟩ := three_of kl hc
    cases hvg : g.valid with
    | false => exact .err 2 (GMake_form hu hv hw hG kg (by omega) hvg)
    | true =>
      have sq : SzQ 8 g.q := Raw.ok.sz kg
      have ed : g.dat = F g.q := by unfold F; rw [← Raw.canon hvg]
      by_cases hp : g.q ≤ 0
      · have mk := GMake_range (G := G) hu hv hw hG sq (by omega) hp
        rw [← ed] at mk
        exact .err 3 mk
      · by_cases h0 : nOf u v w = 0
        · have mk := GMake_unknown (G := G) hu hv hw hG sq (by omega) hp h0
          rw [← ed] at mk
          exact .err 15 mk
        · by_cases hz : kk1 u v w = 0 ∨ kk2 u v w = 0
          · have mk := GMake_zero (G := G) hu hv hw hG sq (by omega) hp h0 hz
            rw [← ed] at mk
            exact .err 8 mk
          · simp only [not_or] at hz
            have mk := GMake_any (G := G) hu hv hw hG sq (by omega) hp h0 hz.1 hz.2
            rw [← ed] at mk
            by_cases hB : (made g.q u v w).b ≤ 0
            · exact .err 16 (mk.1 hB)
            · exact .ok g.q u v w (Raw.canon hvg) sq hp rfl hu hv hw h0 hz.1 hz.2 hB (mk.2 hB)
  · exact .err _ (GMake_bad hG hb kl (by omega) hc)
theorem made_fine {q : Rat} {u v w : Vp} (hp : ¬ q ≤ 0) (h1 : ¬ kk1 u v w = 0) (h2 : ¬ kk2 u v w = 0) (hB : ¬ (made q u v w).b ≤ 0) : (made q u v w).fine := by
  have hq : q ≠ 0 := fun e => hp (by rw [e]; exact Rat.le_refl)
  exact ⟨Rat.not_le.1 hp, Rat.not_le.1 hB, div_ne hq h1, div_ne hq h2⟩
theorem made_err {q : Rat} {u v w : Vp} (hp : ¬ q ≤ 0) (h0 : ¬ nOf u v w = 0) (h1 : ¬ kk1 u v w = 0) (h2 : ¬ kk2 u v w = 0) : (made q u v w).err u.pr.row = 0 ∧ (made q u v w).err v.pr.row = 0 ∧ (made q u v w).err w.pr.row = 0 :=
  genOf_err (fun e => hp (by rw [e]; exact Rat.le_refl)) h0 h1 h2

/-! ### FuncgenMade -/
theorem Made_spec (hG : Steady G) {a b c : RPr} {g : Raw} (ha : a.digs) (hb : b.digs) (hc : c.digs) (h1 : Dig g.n) (h2 : Dig g.d) : Spec Tryz.prog G 6 [pairs3 a b c, g.dat] (bool true) := by
  have aw := awake48_spec (G := G) hG
  have sh := GShort (G := G) hG (RGn.only g) [a, b, c] (by simp)
  by_cases hs : GShortP (RGn.only g) [a, b, c]
  case neg =>
    rw [decide_eq_false hs] at sh
    exact Spec.of_run hG Tryz.func6 (ro := [2, 3]) (m := 60) [.call aw, .call sh, .call aw] (by kernel_rfl)
  rw [decide_eq_true hs] at sh
  have kb := KB_eq
  have kg := only_ok h1 h2 hs
  have dl : ∀ p ∈ [a, b, c], p.digs := by intro p hp; simp at hp; rcases hp with rfl | rfl | rfl; (· exact ha); (· exact hb); exact hc
  have kl : ∀ p ∈ [a, b, c], p.ok 2 := fun p hp => RPr.short_ok (dl p hp) (hs.2.1 p hp)
  have e0 := equal48 (G := G) hG none_gn (by omega)
  rcases make_of (G := G) (g := g) hG (by simp) kl kg with ⟨k, mk⟩ | ⟨q, u, v, w, hq, sq, hp, hl, hu, hv, hw, h0, k1, k2, hB, mk⟩
  · exact Spec.of_run hG Tryz.func6 (ro := [2, 3]) (m := 60) [.call aw, .call sh, .call mk, .call e0] (by kernel_rfl)
  · have hl' : a = u.raw ∧ b = v.raw ∧ c = w.raw := by unfold three3 at hl; simpa using hl
    obtain ⟨rfl, rfl, rfl⟩ := hl'
    have ok := made_ok sq hu hv hw (Nat.le_refl 8)
    have fn := made_fine hp k1 k2 hB
    obtain ⟨e1, e2, e3⟩ := made_err hp h0 k1 k2
    have ft := Fits_ok (G := G) (vs := [u, v, w]) hG ok fn (by intro r hr; simp at hr; rcases hr with rfl | rfl | rfl; (· exact hu); (· exact hv); exact hw) (by omega) (by simp)
    rw [decide_eq_true (show fitsAll (made q u v w) [u, v, w] by intro r hr; simp at hr; rcases hr with rfl | rfl | rfl; (· exact e1); (· exact e2); exact e3)] at ft
    subst hq
    have cg := FCmp_spec (G := G) hG ok.1.isQ sq.isQ (by omega) (by omega)
    have sb := FSign_spec (G := G) hG ok.2.2.2.isQ (by omega)
    have sa := FSign_spec (G := G) hG ok.2.1.isQ (by omega)
    have sc := FSign_spec (G := G) hG ok.2.2.1.isQ (by omega)
    have r1 := Error_ok (G := G) hG ok fn hu (by omega)
    have r2 := Error_ok (G := G) hG ok fn hv (by omega)
    have r3 := Error_ok (G := G) hG ok fn hw (by omega)
    rw [e1] at r1
    rw [e2] at r2
    rw [e3] at r3
    have sz := FSign_spec (G := G) hG isQ_zero (by omega)
    rw [sgn_zero.2 rfl] at sz
    exact Spec.of_run hG Tryz.func6 (ro := [2, 3]) (m := 60)
      [.call aw, .call sh, .call mk, .call ft, .call cg, .eq 51 (Lw.eqB (cmp_bneF (a := (made q u v w).g) (b := q) rfl)), .call sb, .eq 57 (Lw.eqB (sgn_le_false hB)), .call sa, .eq 63 (Lw.eqB (sgn_eq0 fn.2.2.1)), .call sc, .eq 69 (Lw.eqB (sgn_eq0 fn.2.2.2)), .call r1, .call sz, .call r2, .call sz, .call r3, .call sz] (by kernel_rfl)

/-! ### FuncgenFinds -/
theorem Finds_spec (hG : Steady G) {x : RGn} {a b c : RPr} (hx : x.digs) (ha : a.digs) (hb : b.digs) (hc : c.digs) : Spec Tryz.prog G 5 [x.dat, pairs3 a b c] (bool true) := by
  have aw := awake48_spec (G := G) hG
  have sh := GShort (G := G) hG x [a, b, c] (by simp)
  by_cases hs : GShortP x [a, b, c]
  case neg =>
    rw [decide_eq_false hs] at sh
    exact Spec.of_run hG Tryz.func5 (ro := [2, 3]) (m := 60) [.call aw, .call sh, .call aw] (by kernel_rfl)
  rw [decide_eq_true hs] at sh
  have kb := KB_eq
  have kx := RGn.short_ok hx hs.1
  have dl : ∀ p ∈ [a, b, c], p.digs := by intro p hp; simp at hp; rcases hp with rfl | rfl | rfl; (· exact ha); (· exact hb); exact hc
  have kl : ∀ p ∈ [a, b, c], p.ok 2 := fun p hp => RPr.short_ok (dl p hp) (hs.2.1 p hp)
  by_cases hcx : x.code = 0
  case neg =>
    have ft := Fits_bad1 (G := G) hG [a, b, c] kx (by omega) hcx
    exact Spec.of_run hG Tryz.func5 (ro := [2, 3]) (m := 60) [.call aw, .call sh, .call ft] (by kernel_rfl)
  by_cases hv : allValid [a, b, c]
  case neg =>
    have ft := Fits_bad2 (G := G) hG kx (by omega) hcx (by simp) kl (by omega) hv
    exact Spec.of_run hG Tryz.func5 (ro := [2, 3]) (m := 60) [.call aw, .call sh, .call ft] (by kernel_rfl)
  have h3 : threeCode [a, b, c] = 0 := by unfold threeCode; rw [if_neg (by simp), if_pos hv]
  obtain ⟨u, v, w, ⟨hu, hv', hw⟩, hl⟩ := three_of kl h3
  have hl' : a = u.raw ∧ b = v.raw ∧ c = w.raw := by unfold three3 at hl; simpa using hl
  obtain ⟨rfl, rfl, rfl⟩ := hl'
  obtain ⟨y, oy, rfl⟩ := RGn.valid_elim kx (code_valid hcx)
  have fy := code_fine hcx
  have ft := Fits_ok (G := G) (vs := [u, v, w]) hG oy fy (by intro r hr; simp at hr; rcases hr with rfl | rfl | rfl; (· exact hu); (· exact hv'); exact hw) (by omega) (by simp)
  by_cases hf : fitsAll y [u, v, w]
  case neg =>
    rw [decide_eq_false hf] at ft
    exact Spec.of_run hG Tryz.func5 (ro := [2, 3]) (m := 60) [.call aw, .call sh, .call ft] (by kernel_rfl)
  rw [decide_eq_true hf] at ft
  have hp : ¬ y.g ≤ 0 := Rat.not_le.2 fy.1
  by_cases h0 : nOf u v w = 0
  · have ra := GRatios_zero (G := G) hG hu hv' hw h0
    have mk := GMake_unknown (G := G) hu hv' hw hG oy.1 (by omega) hp h0
    have i15 := Is_err (G := G) hG 15 15
    exact Spec.of_run hG Tryz.func5 (ro := [2, 3]) (m := 60) [.call aw, .call sh, .call ft, .call ra, .call mk, .call i15, .call i15] (by kernel_rfl)
  · have ra := GRatios_ok (G := G) hG hu hv' hw h0
    obtain ⟨k1, k2, em⟩ := gen_only fy h0 (hf u (by simp)) (hf v (by simp)) (hf w (by simp))
    have em' : made y.g u v w = y := em
    have mk := (GMake_any (G := G) hu hv' hw hG oy.1 (by omega) hp h0 k1 k2).2 (by rw [em']; exact Rat.not_le.2 fy.2.1)
    rw [em'] at mk
    have eq := equal48 (G := G) hG oy (by omega)
    exact Spec.of_run hG Tryz.func5 (ro := [2, 3]) (m := 60) [.call aw, .call sh, .call ft, .call ra, .call mk, .call eq] (by kernel_rfl)

/-! ### FuncgenScales -/
theorem RPr.ok_mono {k l : Nat} {p : RPr} (h : p.ok k) (hl : k ≤ l) : p.ok l := ⟨⟨h.1.1, h.1.2.1, by have := h.1.2.2.1; omega, by have := h.1.2.2.2.1; omega, by have := h.1.2.2.2.2; omega⟩, ⟨h.2.1, h.2.2.1, by have := h.2.2.2.1; omega, by have := h.2.2.2.2.1; omega, by have := h.2.2.2.2.2; omega⟩⟩
theorem b_scale {g : Rat} {u v w : Vp} (hg : ¬ g ≤ 0) (h1 : ¬ kk1 u v w = 0) (h2 : ¬ kk2 u v w = 0) : (made g u v w).b ≤ 0 ↔ (made 1 u v w).b ≤ 0 := by
  have e : (made g u v w).b = g * g * (made 1 u v w).b := (gen_scale g (kk1 u v w) (kk2 u v w) (kk3 u v w) h1 h2).2.2
  have hp := Rat.not_le.1 hg
  have hgg : 0 < g * g := Rat.mul_pos hp hp
  rw [e]
  generalize (made 1 u v w).b = b
  constructor
  · intro h
    by_cases hb : b ≤ 0
    · exact hb
    · have := Rat.mul_pos hgg (Rat.not_le.1 hb)
      exact absurd this (Rat.not_lt.2 h)
  · intro h
    have := Rat.mul_nonneg (Rat.le_of_lt hgg) (b := -b) (by grind)
    grind
theorem Is_32 (hG : Steady G) : Spec Tryz.prog G 20 [errno 3, int 2] (bool false) := Is_err hG 3 2
theorem Scales_spec (hG : Steady G) {a b c : RPr} {g : Raw} {p : RPr} (ha : a.digs) (hb : b.digs) (hc : c.digs) (h1 : Dig g.n) (h2 : Dig g.d) (hp : p.digs) : Spec Tryz.prog G 7 [pairs3 a b c, g.dat, p.dat] (bool true) := by
  have aw := awake48_spec (G := G) hG
  have sh := GShort (G := G) hG (RGn.only g) [p, a, b, c] (by simp)
  by_cases hs : GShortP (RGn.only g) [p, a, b, c]
  case neg =>
    rw [decide_eq_false hs] at sh
    exact Spec.of_run hG Tryz.func7 (ro := [3, 4, 5, 29]) (m := 60) [.call aw, .call sh, .call aw] (by kernel_rfl)
  rw [decide_eq_true hs] at sh
  have kb := KB_eq
  have kg := only_ok h1 h2 hs
  have dl : ∀ q ∈ [a, b, c], q.digs := by intro q hq; simp at hq; rcases hq with rfl | rfl | rfl; (· exact ha); (· exact hb); exact hc
  have kl : ∀ q ∈ [a, b, c], q.ok 2 := fun q hq => RPr.short_ok (dl q hq) (hs.2.1 q (by simp at hq ⊢; exact .inr hq))
  have kp : p.ok 2 := RPr.short_ok hp (hs.2.1 p (by simp))
  have i22 := Is_err (G := G) hG 2 2
  have i33 := Is_err (G := G) hG 3 3
  have k1 : (rawOf 1).ok 8 := (sz_1.mono (by omega)).ok
  by_cases hcl : threeCode [a, b, c] = 0
  case neg =>
    have e2 : threeCode [a, b, c] = 2 := by rcases code3 a b c with h | h; (· exact absurd h hcl); exact h
    have m1 := GMake_bad (G := G) (g := rawOf 1) hG (l := [a, b, c]) (by simp) kl (by omega) hcl
    have m2 := GMake_bad (G := G) (g := g) hG (l := [a, b, c]) (by simp) kl (by omega) hcl
    rw [e2] at m1 m2
    exact Spec.of_run hG Tryz.func7 (ro := [3, 4, 5, 29]) (m := 60) [.call aw, .call sh, .call (FOne hG), .call m1, .call m2, .call i22] (by kernel_rfl)
  obtain ⟨u, v, w, ⟨hu, hv, hw⟩, hl⟩ := three_of kl hcl
  have hl' : a = u.raw ∧ b = v.raw ∧ c = w.raw := by unfold three3 at hl; simpa using hl
  obtain ⟨rfl, rfl, rfl⟩ := hl'
  cases hvg : g.valid with
  | false =>
    have m2 := GMake_form (G := G) hu hv hw hG kg (by omega) hvg
    rcases make_of (G := G) (g := rawOf 1) (l := three3 u v w) hG (by simp [three3]) kl k1 with ⟨k, m1⟩ | ⟨q, u', v', w', hq, sq, hp', hl2, hu', hv', hw', h0, n1, n2, hB, m1⟩
    · exact Spec.of_run hG Tryz.func7 (ro := [3, 4, 5, 29]) (m := 60) [.call aw, .call sh, .call (FOne hG), .call m1, .call m2, .call i22] (by kernel_rfl)
    · exact Spec.of_run hG Tryz.func7 (ro := [3, 4, 5, 29]) (m := 60) [.call aw, .call sh, .call (FOne hG), .call m1, .call m2, .call i22] (by kernel_rfl)
  | true =>
    have sq : SzQ 8 g.q := Raw.ok.sz kg
    have ed : g = rawOf g.q := Raw.canon hvg
    generalize g.q = q at ed sq
    subst ed
    by_cases hq : q ≤ 0
    · have m2 := GMake_range (G := G) hu hv hw hG sq (by omega) hq
      rcases make_of (G := G) (g := rawOf 1) (l := three3 u v w) hG (by simp [three3]) kl k1 with ⟨k, m1⟩ | ⟨q', u', v', w', hq', sq', hp', hl2, hu', hv', hw', h0, n1, n2, hB, m1⟩
      · exact Spec.of_run hG Tryz.func7 (ro := [3, 4, 5, 29]) (m := 60) [.call aw, .call sh, .call (FOne hG), .call m1, .call m2, .call (Is_32 hG), .call i33] (by kernel_rfl)
      · exact Spec.of_run hG Tryz.func7 (ro := [3, 4, 5, 29]) (m := 60) [.call aw, .call sh, .call (FOne hG), .call m1, .call m2, .call (Is_32 hG), .call i33] (by kernel_rfl)
    · have one_le : ¬ (1 : Rat) ≤ 0 := by decide +kernel
      by_cases h0 : nOf u v w = 0
      · have m1 := GMake_unknown (G := G) hu hv hw hG sz_1 (by omega) one_le h0
        have m2 := GMake_unknown (G := G) hu hv hw hG sq (by omega) hq h0
        exact Spec.of_run hG Tryz.func7 (ro := [3, 4, 5, 29]) (m := 60) [.call aw, .call sh, .call (FOne hG), .call m1, .call m2, .call (Is_err hG 15 2), .call (Is_err hG 15 3), .call (Num_err hG 15), .call (Num_err hG 15)] (by kernel_rfl)
      · by_cases hz : kk1 u v w = 0 ∨ kk2 u v w = 0
        · have m1 := GMake_zero (G := G) hu hv hw hG sz_1 (by omega) one_le h0 hz
          have m2 := GMake_zero (G := G) hu hv hw hG sq (by omega) hq h0 hz
          exact Spec.of_run hG Tryz.func7 (ro := [3, 4, 5, 29]) (m := 60) [.call aw, .call sh, .call (FOne hG), .call m1, .call m2, .call (Is_err hG 8 2), .call (Is_err hG 8 3), .call (Num_err hG 8), .call (Num_err hG 8)] (by kernel_rfl)
        · simp only [not_or] at hz
          obtain ⟨n1, n2⟩ := hz
          have M1 := GMake_any (G := G) hu hv hw hG sz_1 (by omega) one_le h0 n1 n2
          have M2 := GMake_any (G := G) hu hv hw hG sq (by omega) hq h0 n1 n2
          have bs := b_scale (g := q) hq n1 n2
          by_cases hB : (made q u v w).b ≤ 0
          · exact Spec.of_run hG Tryz.func7 (ro := [3, 4, 5, 29]) (m := 60) [.call aw, .call sh, .call (FOne hG), .call (M1.1 (bs.1 hB)), .call (M2.1 hB), .call (Is_err hG 16 2), .call (Is_err hG 16 3), .call (Num_err hG 16), .call (Num_err hG 16)] (by kernel_rfl)
          · have hB1 : ¬ (made 1 u v w).b ≤ 0 := fun h => hB (bs.2 h)
            have m1 := M1.2 hB1
            have m2 := M2.2 hB
            have o1 := made_ok sz_1 hu hv hw (by omega)
            have o2 := made_ok sq hu hv hw (by omega)
            have f1 := made_fine one_le n1 n2 hB1
            have f2 := made_fine hq n1 n2 hB
            obtain ⟨e1, e2, e3⟩ := gen_scale q (kk1 u v w) (kk2 u v w) (kk3 u v w) n1 n2
            have x1 := FMul_spec (G := G) hG sq.isQ o1.2.1.isQ (by omega) (by omega)
            have x2 := FMul_spec (G := G) hG sq.isQ o1.2.2.1.isQ (by omega) (by omega)
            have x3 := FMul_spec (G := G) hG sq.isQ sq.isQ (by omega) (by omega)
            have x4 := FMul_spec (G := G) hG (sq.mul sq).isQ o1.2.2.2.isQ (by omega) (by omega)
            have c1 := FCmp_spec (G := G) hG o2.2.1.isQ (sq.mul o1.2.1).isQ (by omega) (by omega)
            have c2 := FCmp_spec (G := G) hG o2.2.2.1.isQ (sq.mul o1.2.2.1).isQ (by omega) (by omega)
            have c3 := FCmp_spec (G := G) hG o2.2.2.2.isQ ((sq.mul sq).mul o1.2.2.2).isQ (by omega) (by omega)
            have b1 := cmp_bneF (a := (made q u v w).a) (b := q * (made 1 u v w).a) e1
            have b2 := cmp_bneF (a := (made q u v w).c) (b := q * (made 1 u v w).c) e2
            have b3 := cmp_bneF (a := (made q u v w).b) (b := q * q * (made 1 u v w).b) e3
            cases hi : p.i.valid with
            | false =>
              have hpv : p.valid = false := by unfold RPr.valid; rw [hi]; rfl
              have r1 := Error_bad2 (G := G) hG (Gn.raw_ok o1) (RPr.ok_mono kp (by omega)) (by omega) (fine_code f1) hpv
              have r2 := Error_bad2 (G := G) hG (Gn.raw_ok o2) (RPr.ok_mono kp (by omega)) (by omega) (fine_code f2) hpv
              have d1 := PDir_bad (G := G) hG kp.1 (by omega) hi
              cases ho : p.o.valid with
              | false =>
                have d2 := PDir_bad (G := G) hG kp.2 (by omega) ho
                exact Spec.of_run hG Tryz.func7 (ro := [3, 4, 5, 29]) (m := 60)
                  [.call aw, .call sh, .call (FOne hG), .call m1, .call m2, .call x1, .call c1, .eq 71 (Lw.eqB b1), .call x2, .call c2, .eq 81 (Lw.eqB b2), .call x3, .call x4, .call c3, .eq 93 (Lw.eqB b3), .call r1, .call r2, .call d1, .call d2, .call i22, .call i22] (by kernel_rfl)
              | true =>
                obtain ⟨ec, vt⟩ := RTn.canon ho
                have d2 := PDir_ok (G := G) hG (Raw.ok.sz kp.2) vt (by omega)
                rw [← ec] at d2
                exact Spec.of_run hG Tryz.func7 (ro := [3, 4, 5, 29]) (m := 60)
                  [.call aw, .call sh, .call (FOne hG), .call m1, .call m2, .call x1, .call c1, .eq 71 (Lw.eqB b1), .call x2, .call c2, .eq 81 (Lw.eqB b2), .call x3, .call x4, .call c3, .eq 93 (Lw.eqB b3), .call r1, .call r2, .call d1, .call d2, .call i22, .call i22] (by kernel_rfl)
            | true =>
              obtain ⟨ec1, vt1⟩ := RTn.canon hi
              have d1 := PDir_ok (G := G) hG (Raw.ok.sz kp.1) vt1 (by omega)
              rw [← ec1] at d1
              cases ho : p.o.valid with
              | false =>
                have hpv : p.valid = false := by unfold RPr.valid; rw [ho, Bool.and_false]
                have r1 := Error_bad2 (G := G) hG (Gn.raw_ok o1) (RPr.ok_mono kp (by omega)) (by omega) (fine_code f1) hpv
                have r2 := Error_bad2 (G := G) hG (Gn.raw_ok o2) (RPr.ok_mono kp (by omega)) (by omega) (fine_code f2) hpv
                have d2 := PDir_bad (G := G) hG kp.2 (by omega) ho
                exact Spec.of_run hG Tryz.func7 (ro := [3, 4, 5, 29]) (m := 60)
                  [.call aw, .call sh, .call (FOne hG), .call m1, .call m2, .call x1, .call c1, .eq 71 (Lw.eqB b1), .call x2, .call c2, .eq 81 (Lw.eqB b2), .call x3, .call x4, .call c3, .eq 93 (Lw.eqB b3), .call r1, .call r2, .call d1, .call d2, .call i22, .call i22] (by kernel_rfl)
              | true =>
                have hpv : p.valid = true := by unfold RPr.valid; rw [hi, ho]; rfl
                obtain ⟨ec2, vt2⟩ := RTn.canon ho
                have d2 := PDir_ok (G := G) hG (Raw.ok.sz kp.2) vt2 (by omega)
                rw [← ec2] at d2
                obtain ⟨y, oy, rfl⟩ := RPr.valid_elim kp hpv
                have r1 := Error_ok (G := G) hG o1 f1 oy (by omega)
                have r2 := Error_ok (G := G) hG o2 f2 oy (by omega)
                have s1 := Gn.err_sz o1 (Vp.row_ok oy)
                have s2 := Gn.err_sz o2 (Vp.row_ok oy)
                have ee : (made 1 u v w).err y.pr.row = (made q u v w).err y.pr.row := (gen_scale_err (g := q) (fun e => hq (by rw [e]; exact Rat.le_refl)) n1 n2 y.pr.row).symm
                have c4 := FCmp_spec (G := G) hG s1.isQ s2.isQ (by omega) (by omega)
                exact Spec.of_run hG Tryz.func7 (ro := [3, 4, 5, 29]) (m := 60)
                  [.call aw, .call sh, .call (FOne hG), .call m1, .call m2, .call x1, .call c1, .eq 71 (Lw.eqB b1), .call x2, .call c2, .eq 81 (Lw.eqB b2), .call x3, .call x4, .call c3, .eq 93 (Lw.eqB b3), .call r1, .call r2, .call d1, .call d2, .call c4, .eq 143 (Lw.eqB (cmp_eq ee))] (by kernel_rfl)
end Lw
