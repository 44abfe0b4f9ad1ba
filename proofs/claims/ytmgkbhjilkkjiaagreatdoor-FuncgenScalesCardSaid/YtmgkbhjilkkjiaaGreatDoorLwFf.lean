/- The statements about generators, run. No condition. -/
import Derived.Test.YtmgkbhjilkkjiaaGreatDoorLwFe
namespace Lw
open Go Go.RowKit Go.Proofs

variable {G : World → Prop}

/-! ### awake -/
theorem Text_2n (hG : Steady G) : Spec Tryz.prog G 87 [wv true 2] (txt [45, 50]) :=
  Spec.of_run hG Tryz.func87 (ro := [1, 36]) (m := 60)
    [.call (mag_spec (s := true) (n := 2) hG (by simp) (len_small (by omega))), .call (short_nine hG (n := 2) (by omega)), .inl [] Tryz.func115, .inl [] Tryz.func132, .inl [] Tryz.func146, .inl [] Tryz.func153,
     .inl [] Tryz.func117, .call (neg_spec (s := true) (n := 2) hG (by simp) (len_small (by omega)))] (by kernel_rfl)
theorem sz_i {n : Int} (h : -100 ≤ n) (h' : n ≤ 100) : SzQ 1 ((n : Int) : Rat) := sz_lit (k := 1) (by omega) (by omega) (by omega)
theorem FText_two (hG : Steady G) : Spec Tryz.prog G 44 [F 2] (txt [50]) := FText_int hG sz_2.isQ (by rw [KB_eq]; omega) (n := 2) rfl rfl (Text_2 hG)
theorem FText_mtwo (hG : Steady G) : Spec Tryz.prog G 44 [F (-2)] (txt [45, 50]) := FText_int hG sz_2.neg.isQ (by rw [KB_eq]; omega) (n := -2) rfl rfl (Text_2n hG)
theorem sz_4 : SzQ 1 (4 : Rat) := by unfold SzQ; decide +kernel
theorem FText_four (hG : Steady G) : Spec Tryz.prog G 44 [F 4] (txt [52]) := FText_int hG sz_4.isQ (by rw [KB_eq]; omega) (n := 4) rfl rfl (Text_4 hG)
def ex0 : Vp := ⟨0, false, 0, false⟩
def ex1 : Vp := ⟨0, false, 1, false⟩
def ex2 : Vp := ⟨1, false, 0, false⟩
def exH : Vp := ⟨0, true, 0, true⟩
def exG : Gn := ⟨2, 2, -2, 4⟩
theorem z1q : SzQ 1 (0 : Rat) := sz_zero (by omega)
theorem ex0_ok : ex0.ok 1 := ⟨z1q, z1q, (by intro h; revert h; decide), (by intro h; revert h; decide)⟩
theorem ex1_ok : ex1.ok 1 := ⟨z1q, sz_1, (by intro h; revert h; decide), (by intro h; revert h; decide)⟩
theorem ex2_ok : ex2.ok 1 := ⟨sz_1, z1q, (by intro h; revert h; decide), (by intro h; revert h; decide)⟩
theorem exH_ok : exH.ok 1 := ⟨z1q, z1q, fun _ => rfl, fun _ => rfl⟩
theorem exG_ok : exG.ok 1 := ⟨sz_2, sz_2, sz_2.neg, sz_4⟩
theorem exG_fine : exG.fine := by unfold Gn.fine; decide +kernel
theorem Vp.mono {k l : Nat} {v : Vp} (h : v.ok k) (hl : k ≤ l) : v.ok l := ⟨h.1.mono hl, h.2.1.mono hl, h.2.2.1, h.2.2.2⟩
theorem Gn.mono {k l : Nat} {x : Gn} (h : x.ok k) (hl : k ≤ l) : x.ok l := ⟨h.1.mono hl, h.2.1.mono hl, h.2.2.1.mono hl, h.2.2.2.mono hl⟩
theorem Example48 (hG : Steady G) : Spec Tryz.prog G 42 [] (rowS RPr.cells (three3 ex0 ex1 ex2)) :=
  Spec.of_run hG Tryz.func42 (ro := []) (m := 60) [.call (ROne hG)] (by kernel_rfl)
theorem Gn.same {x y : Gn} (h1 : x.g = y.g) (h2 : x.a = y.a) (h3 : x.c = y.c) (h4 : x.b = y.b) : x = y := by
  cases x; cases y; cases h1; cases h2; cases h3; cases h4; rfl
theorem made_ex : made 2 ex0 ex1 ex2 = exG := by
  have e1 : (made 2 ex0 ex1 ex2).g = 2 := by decide +kernel
  have e2 : (made 2 ex0 ex1 ex2).a = 2 := by decide +kernel
  have e3 : (made 2 ex0 ex1 ex2).c = -2 := by decide +kernel
  have e4 : (made 2 ex0 ex1 ex2).b = 4 := by decide +kernel
  exact Gn.same e1 e2 e3 e4
theorem aw48_make (hG : Steady G) : Spec Tryz.prog G 13 [rowS RPr.cells (three3 ex0 ex1 ex2), F 2] (.tup [exG.dat, .lit .nilIface]) := by
  have h := (GMake_any (G := G) (Vp.mono ex0_ok (by omega)) (Vp.mono ex1_ok (by omega)) (Vp.mono ex2_ok (by omega)) hG sz_2 (by omega) (by decide +kernel) (by decide +kernel) (by decide +kernel) (by decide +kernel)).2 (by decide +kernel)
  rw [made_ex] at h
  exact h
theorem aw48_fits (hG : Steady G) : Spec Tryz.prog G 23 [exG.dat, rowS RPr.cells (three3 ex0 ex1 ex2)] (.tup [bool true, .lit .nilIface]) := by
  have h := Fits_ok (G := G) (vs := [ex0, ex1, ex2]) hG exG_ok exG_fine (by intro v hv; simp at hv; rcases hv with rfl | rfl | rfl; (· exact ex0_ok); (· exact ex1_ok); exact ex2_ok) (by rw [KB_eq]; omega) (by simp)
  rw [decide_eq_true (by intro v hv; simp at hv; rcases hv with rfl | rfl | rfl <;> decide +kernel)] at h
  exact h
theorem aw48_not (hG : Steady G) : Spec Tryz.prog G 23 [exG.dat, rowS RPr.cells [exH.raw]] (.tup [bool false, .lit .nilIface]) := by
  have h := Fits_ok (G := G) (vs := [exH]) hG exG_ok exG_fine (by intro v hv; simp at hv; rw [hv]; exact exH_ok) (by rw [KB_eq]; omega) (by simp)
  rw [decide_eq_false (by intro g; exact absurd (g exH (by simp)) (by decide +kernel))] at h
  exact h
theorem awake48_spec (hG : Steady G) : Spec Tryz.prog G 10 [] (bool true) :=
  Spec.of_run hG Tryz.func10 (ro := []) (m := 60)
    [.call (Example48 hG), .call (RTwo hG), .call (aw48_make hG), .call (Example48 hG), .call (aw48_fits hG), .call (aw48_not hG), .call (FText_two hG), .call (FText_mtwo hG), .call (FText_four hG)] (by kernel_rfl)

/-! ### small ones -/
theorem same38 (hG : Steady G) {k : Nat} {a b : Rat} (s : SzQ k a) (s' : SzQ k b) (hk : k ≤ KB) : Spec Tryz.prog G 36 [FPl a b, FPl a b] (bool true) :=
  Spec.of_run hG Tryz.func36 (ro := [2, 3]) (m := 60) [.call (FRat_same hG s hk), .call (FRat_same hG s' hk)] (by kernel_rfl)
theorem equal48 (hG : Steady G) {k : Nat} {x : Gn} (h : x.ok k) (hk : k ≤ KB) : Spec Tryz.prog G 16 [x.dat, x.dat] (bool true) := by
  have r1 := FRat_same (G := G) hG h.1 hk
  have r2 := FRat_same (G := G) hG h.2.1 hk
  have r3 := FRat_same (G := G) hG h.2.2.1 hk
  have r4 := FRat_same (G := G) hG h.2.2.2 hk
  exact Spec.of_run hG Tryz.func16 (ro := [2, 3]) (m := 60) [.inl [] Tryz.func18, .call r1, .call r2, .call r3, .call r4] (by kernel_rfl)
theorem none_gn : Gn.none.ok 1 := ⟨z1q, z1q, z1q, z1q⟩
theorem rats3 (hG : Steady G) {k : Nat} {a b c : Rat} (sa : SzQ k a) (sb : SzQ k b) (sc : SzQ k c) (hk : k ≤ KB) : Spec Tryz.prog G 18 [rowS cQ [a, b, c], rowS cQ [a, b, c]] (bool true) :=
  Spec.of_run hG Tryz.func18 (ro := []) (m := 60) [.call (FRat_same hG sa hk), .call (FRat_same hG sb hk), .call (FRat_same hG sc hk)] (by kernel_rfl)
theorem rats0 (hG : Steady G) : Spec Tryz.prog G 18 [rowS cQ [], rowS cQ []] (bool true) :=
  Spec.of_run hG Tryz.func18 (ro := []) (m := 60) [] (by kernel_rfl)
theorem one_row (r : RPr) : rowS RPr.cells [r] = .row 1 false r.cells := by unfold rowS; simp
theorem row_one (v : Vp) : rowS RPr.cells ([v].map Vp.raw) = .row 1 false v.raw.cells := one_row v.raw
def RGn.only (g : Raw) : RGn := ⟨g, ⟨false, [], []⟩, ⟨false, [], []⟩, ⟨false, [], []⟩⟩
theorem only_short {g : Raw} (h : (RGn.only g).short) : g.n.length ≤ 8 ∧ g.d.length ≤ 8 := h.1

/-! ### FuncgenErrors -/
theorem Errors_spec (hG : Steady G) {x : RGn} {p : RPr} (hx : x.digs) (hp : p.digs) : Spec Tryz.prog G 8 [x.dat, p.dat] (bool true) := by
  have aw := awake48_spec (G := G) hG
  have sh := GShort (G := G) hG x [p] (by simp)
  rw [one_row] at sh
  by_cases hs : GShortP x [p]
  case neg =>
    rw [decide_eq_false hs] at sh
    exact Spec.of_run hG Tryz.func8 (ro := [2, 3]) (m := 60) [.call aw, .call sh, .call aw] (by kernel_rfl)
  rw [decide_eq_true hs] at sh
  have kb := KB_eq
  have kx := RGn.short_ok hx hs.1
  have kp : p.ok 2 := RPr.short_ok hp (hs.2.1 p (by simp))
  have kp8 : p.ok 8 := RPr.short_ok hp (hs.2.1 p (by simp)) |> fun h => ⟨⟨h.1.1, h.1.2.1, by have := h.1.2.2.1; omega, by have := h.1.2.2.2.1; omega, by omega⟩, ⟨h.2.1, h.2.2.1, by have := h.2.2.2.1; omega, by have := h.2.2.2.2.1; omega, by omega⟩⟩
  have rc := RGCheck (G := G) hG kx (by omega)
  have rp := GRPair (G := G) hG kp (by omega)
  have r0 := FRat_same (G := G) hG z1q (by omega)
  have s0 := same38 (G := G) hG z1q z1q (by omega)
  by_cases hc : x.code = 0
  case neg =>
    have er := Error_bad1 (G := G) (p := p) hG kx (by omega) hc
    have en := Ends_bad1 (G := G) (p := p) hG kx (by omega) hc
    have nm := Num_err (G := G) hG x.code
    generalize x.code = k at *
    exact Spec.of_run hG Tryz.func8 (ro := [2, 3]) (m := 60)
      [.call aw, .call sh, .call er, .call en, .call rc, .eq 39 (Lw.eqB (beq_eq_false_iff_ne.2 hc)), .eq 46 (Lw.eqB (bne_iff_ne.2 hc)), .call nm, .eq 50 (Lw.eqB (beq_self_eq_true k)), .call nm, .eq 55 (Lw.eqB (beq_self_eq_true k)), .call r0, .call s0, .call s0] (by kernel_rfl)
  rw [hc] at rc
  cases hv : p.valid with
  | false =>
    rw [hv] at rp
    have er := Error_bad2 (G := G) hG kx kp8 (by omega) hc hv
    have en := Ends_bad2 (G := G) hG kx kp8 (by omega) hc hv
    have nm := Num_err (G := G) hG 2
    exact Spec.of_run hG Tryz.func8 (ro := [2, 3]) (m := 60)
      [.call aw, .call sh, .call er, .call en, .call rc, .call rp, .call nm, .call nm, .call r0, .call s0, .call s0] (by kernel_rfl)
  | true =>
    rw [hv] at rp
    obtain ⟨v, ov, rfl⟩ := RPr.valid_elim kp hv
    have hxv : x.valid = true := by
      unfold RGn.code at hc
      cases h : x.valid with
      | true => rfl
      | false => rw [h, if_pos rfl] at hc; cases hc
    obtain ⟨y, oy, rfl⟩ := RGn.valid_elim kx hxv
    have fy := code_fine hc
    have er := Error_ok (G := G) hG oy fy ov (by omega)
    have en := Ends_ok (G := G) hG oy fy ov (by omega)
    have re := REnds_ok (G := G) hG oy ov (by omega)
    have rr := RError_ok (G := G) hG oy fy ov (by omega)
    have fr := FRat_same (G := G) hG (Gn.err_sz oy (Vp.row_ok ov)) (by omega)
    obtain ⟨z1, z2, z3, z4⟩ := ends_sz oy ov
    have s1 := same38 (G := G) hG z1 z2 (by omega)
    have s2 := same38 (G := G) hG z3 z4 (by omega)
    exact Spec.of_run hG Tryz.func8 (ro := [2, 3]) (m := 60)
      [.call aw, .call sh, .call er, .call en, .call rc, .call rp, .call re, .call rr, .call fr, .call s1, .call s2] (by kernel_rfl)

/-! ### FuncgenDistance -/
theorem code_valid {x : RGn} (hc : x.code = 0) : x.valid = true := by
  unfold RGn.code at hc
  cases h : x.valid with
  | true => rfl
  | false => rw [h, if_pos rfl] at hc; cases hc
theorem RPr.ok8 {p : RPr} (h : p.ok 2) : p.ok 8 := ⟨⟨h.1.1, h.1.2.1, by have := h.1.2.2.1; omega, by have := h.1.2.2.2.1; omega, by omega⟩, ⟨h.2.1, h.2.2.1, by have := h.2.2.2.1; omega, by have := h.2.2.2.2.1; omega, by omega⟩⟩
theorem Distance_spec (hG : Steady G) {x : RGn} {p : RPr} (hx : x.digs) (hp : p.digs) : Spec Tryz.prog G 9 [x.dat, p.dat] (bool true) := by
  have aw := awake48_spec (G := G) hG
  have sh := GShort (G := G) hG x [p] (by simp)
  rw [one_row] at sh
  by_cases hs : GShortP x [p]
  case neg =>
    rw [decide_eq_false hs] at sh
    exact Spec.of_run hG Tryz.func9 (ro := [2, 3]) (m := 60) [.call aw, .call sh, .call aw] (by kernel_rfl)
  rw [decide_eq_true hs] at sh
  have kb := KB_eq
  have kx := RGn.short_ok hx hs.1
  have kp : p.ok 2 := RPr.short_ok hp (hs.2.1 p (by simp))
  by_cases hc : x.code = 0
  case neg =>
    have er := Error_bad1 (G := G) (p := p) hG kx (by omega) hc
    have en := Ends_bad1 (G := G) (p := p) hG kx (by omega) hc
    have ft := Fits_bad1 (G := G) hG [p] kx (by omega) hc
    rw [one_row] at ft
    have nm := Num_err (G := G) hG x.code
    generalize x.code = k at *
    exact Spec.of_run hG Tryz.func9 (ro := [2, 3]) (m := 60)
      [.call aw, .call sh, .call er, .call en, .call ft, .call nm, .call nm, .eq 58 (Lw.eqB (beq_self_eq_true k)), .call nm, .call nm, .eq 64 (Lw.eqB (beq_self_eq_true k))] (by kernel_rfl)
  cases hv : p.valid with
  | false =>
    have er := Error_bad2 (G := G) hG kx (RPr.ok8 kp) (by omega) hc hv
    have en := Ends_bad2 (G := G) hG kx (RPr.ok8 kp) (by omega) hc hv
    have ft := Fits_bad2 (G := G) (l := [p]) hG kx (by omega) hc (by simp) (by intro r hr; simp at hr; rw [hr]; exact kp) (by omega) (by intro h; have := h p (by simp); rw [hv] at this; cases this)
    rw [one_row] at ft
    have nm := Num_err (G := G) hG 2
    exact Spec.of_run hG Tryz.func9 (ro := [2, 3]) (m := 60)
      [.call aw, .call sh, .call er, .call en, .call ft, .call nm, .call nm, .call nm, .call nm] (by kernel_rfl)
  | true =>
    obtain ⟨v, ov, rfl⟩ := RPr.valid_elim kp hv
    obtain ⟨y, oy, rfl⟩ := RGn.valid_elim kx (code_valid hc)
    have fy := code_fine hc
    have er := Error_ok (G := G) hG oy fy ov (by omega)
    have en := Ends_ok (G := G) hG oy fy ov (by omega)
    have ft := Fits_ok (G := G) (vs := [v]) hG oy fy (by intro r hr; simp at hr; rw [hr]; exact ov) (by omega) (by simp)
    rw [row_one] at ft
    obtain ⟨z1, z2, z3, z4⟩ := ends_sz oy ov
    have ls := PRless_spec (G := G) hG z1 z2 z3 z4 (by omega)
    have sq := PRsq_spec (G := G) hG (z1.sub z3) (z2.sub z4) (by omega)
    have ss := (z1.sub z3).sq2 (z2.sub z4)
    have se := Gn.err_sz oy (Vp.row_ok ov)
    have m1 := FMul_spec (G := G) hG oy.2.1.isQ oy.2.2.1.isQ (by omega) (by omega)
    have m2 := FMul_spec (G := G) hG se.isQ (oy.2.1.mul oy.2.2.1).isQ (by omega) (by omega)
    have m3 := FMul_spec (G := G) hG sz_2.isQ (se.mul (oy.2.1.mul oy.2.2.1)).isQ (by omega) (by omega)
    have ad := FAdd_spec (G := G) hG oy.2.2.2.isQ (sz_2.mul (se.mul (oy.2.1.mul oy.2.2.1))).isQ (by omega) (by omega)
    have cm := FCmp_spec (G := G) hG ss.isQ (oy.2.2.2.add (sz_2.mul (se.mul (oy.2.1.mul oy.2.2.1)))).isQ (by omega) (by omega)
    have sg := FSign_spec (G := G) hG se.isQ (by omega)
    have e : sq2 (y.ax v.pr - y.bx v.pr) (y.ay v.pr - y.by' v.pr) = y.b + 2 * (y.err v.pr.row * (y.a * y.c)) := Gn.dist_err fy (Vp.unit v)
    by_cases h0 : y.err v.pr.row = 0
    · rw [decide_eq_true (show fitsAll y [v] by intro r hr; simp at hr; rw [hr]; exact h0)] at ft
      exact Spec.of_run hG Tryz.func9 (ro := [2, 3]) (m := 60)
        [.call aw, .call sh, .call er, .call en, .call ft, .call ls, .call sq, .call (FTwo hG), .call m1, .call m2, .call m3, .call ad, .call cm, .eq 89 (Lw.eqB (cmp_eq e)), .call sg, .eq 94 (Lw.eqB (beq_iff_eq.2 (sgn_zero.2 h0)))] (by kernel_rfl)
    · rw [decide_eq_false (show ¬ fitsAll y [v] from fun h => h0 (h v (by simp)))] at ft
      exact Spec.of_run hG Tryz.func9 (ro := [2, 3]) (m := 60)
        [.call aw, .call sh, .call er, .call en, .call ft, .call ls, .call sq, .call (FTwo hG), .call m1, .call m2, .call m3, .call ad, .call cm, .eq 89 (Lw.eqB (cmp_eq e)), .call sg, .eq 94 (Lw.eqB (sgn_eq0 h0))] (by kernel_rfl)

/-! ### FuncgenFits -/
theorem FitsLaw (hG : Steady G) {x : RGn} {l : List RPr} (hx : x.digs) (hl : ∀ p ∈ l, p.digs) (hb : l.length ≤ 9223372036854775807) : Spec Tryz.prog G 4 [x.dat, rowS RPr.cells l] (bool true) := by
  have aw := awake48_spec (G := G) hG
  have sh := GShort (G := G) hG x l hb
  by_cases hs : GShortP x l
  case neg =>
    rw [decide_eq_false hs] at sh
    exact Spec.of_run hG Tryz.func4 (ro := [2]) (m := 60) [.call aw, .call sh, .call aw] (by kernel_rfl)
  rw [decide_eq_true hs] at sh
  have kb := KB_eq
  have kx := RGn.short_ok hx hs.1
  have kl : ∀ p ∈ l, p.ok 2 := fun p hp => RPr.short_ok (hl p hp) (hs.2.1 p hp)
  have rc := RGCheck (G := G) hG kx (by omega)
  by_cases hc : x.code = 0
  case neg =>
    have ft := Fits_bad1 (G := G) hG l kx (by omega) hc
    have nm := Num_err (G := G) hG x.code
    generalize x.code = k at *
    exact Spec.of_run hG Tryz.func4 (ro := [2]) (m := 60)
      [.call aw, .call sh, .call ft, .call rc, .eq 27 (Lw.eqB (bne_iff_ne.2 hc)), .eq 37 (Lw.eqB (bne_iff_ne.2 hc)), .call nm, .eq 44 (Lw.eqB (beq_self_eq_true k))] (by kernel_rfl)
  rw [hc] at rc
  by_cases h16 : l.length ≤ 16
  case neg =>
    have ft := Fits_long (G := G) hG kx (by omega) hc h16
    have nm := Num_err (G := G) hG 10
    exact Spec.of_run hG Tryz.func4 (ro := [2]) (m := 60)
      [.call aw, .call sh, .call ft, .call rc, .eq 31 (Lw.eqB (gtk_true h16)), .call nm] (by kernel_rfl)
  have rp := RPairs (G := G) hG hb kl (by omega)
  by_cases hv : allValid l
  case neg =>
    rw [decide_eq_false hv] at rp
    have ft := Fits_bad2 (G := G) hG kx (by omega) hc h16 kl (by omega) hv
    have nm := Num_err (G := G) hG 2
    exact Spec.of_run hG Tryz.func4 (ro := [2]) (m := 60)
      [.call aw, .call sh, .call ft, .call rc, .eq 31 (Lw.eqB (gtk_false h16)), .call rp, .call nm] (by kernel_rfl)
  rw [decide_eq_true hv] at rp
  obtain ⟨vs, ov, rfl⟩ := pairs_of kl hv
  obtain ⟨y, oy, rfl⟩ := RGn.valid_elim kx (code_valid hc)
  have fy := code_fine hc
  have h16' : vs.length ≤ 16 := by simpa using h16
  have ft := Fits_ok (G := G) hG oy fy ov (by omega) h16'
  have rf := RFits_ok (G := G) hG oy fy ov (by omega) h16'
  exact Spec.of_run hG Tryz.func4 (ro := [2]) (m := 60)
    [.call aw, .call sh, .call ft, .call rc, .eq 31 (Lw.eqB (gtk_false h16)), .call rp, .call rf, .eq 53 (Lw.eqB (beq_self_eq_true (decide (fitsAll y vs))))] (by kernel_rfl)
end Lw
