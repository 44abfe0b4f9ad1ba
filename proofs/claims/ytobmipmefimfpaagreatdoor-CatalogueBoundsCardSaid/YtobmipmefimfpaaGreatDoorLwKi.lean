/- Certificates of choices, the example, two statements about catalogues, run. No condition. -/
import Derived.Test.YtobmipmefimfpaaGreatDoorLwKh
namespace Lw
open Go Go.RowKit Go.Proofs

variable {G : World → Prop}

/-! ### a certificate and a choice -/
def chR (ix : I4) (r : Raw) : D := .agg (ix.cells ++ r.cells)
theorem zero_le_top (y : Cat) : Ix.zero.le y.top := ⟨Nat.zero_le _, Nat.zero_le _, Nat.zero_le _, Nat.zero_le _⟩
theorem top_lt {y : Cat} (h : y.fine) : y.top.lt y.size := by
  have f0 := (h.1 0 (by omega)).1
  have f1 := (h.1 1 (by omega)).1
  have f2 := (h.1 2 (by omega)).1
  have f3 := (h.1 3 (by omega)).1
  exact ⟨Nat.sub_lt f0 (by omega), Nat.sub_lt f1 (by omega), Nat.sub_lt f2 (by omega), Nat.sub_lt f3 (by omega)⟩
theorem le_top {y : Cat} {x : Ix} (h : x.lt y.size) : x.le y.top := ⟨Nat.le_pred_of_lt h.1, Nat.le_pred_of_lt h.2.1, Nat.le_pred_of_lt h.2.2.1, Nat.le_pred_of_lt h.2.2.2⟩
theorem zero_le (x : Ix) : Ix.zero.le x := ⟨Nat.zero_le _, Nat.zero_le _, Nat.zero_le _, Nat.zero_le _⟩
/-- Whether a certificate is accepted. -/
def Cat.ver (y : Cat) (x : Ix) (r : Raw) (t : Bt) : Bool := r.valid && (decide (y.f x = r.q) && proveT y.low (y.f x) Ix.zero y.top t)
def Cat.cert (y : Cat) : Bt := growT y.low y.best.2 (vol Ix.zero y.top + 1) Ix.zero y.top
theorem best_all {y : Cat} (h : y.fine) (x : Ix) (hx : x.le y.top) : y.best.2 ≤ y.low x x := bestOf_le y.f (Ix.lt_of_le hx (top_lt h))
theorem best_at' {y : Cat} (h : y.fine) : y.best.1.lt y.size ∧ y.best.2 = y.f y.best.1 := bestOf_at y.f (all_pos h)
theorem best_szq {y : Cat} (h : y.fine) : SzQ 3500 y.best.2 := by
  obtain ⟨a, b⟩ := best_at' h
  rw [b]; exact f_sz h a
theorem PMake_ok (hG : Steady G) {y : Cat} (hy : y.good G) : Spec Tryz.prog G 22 [y.raw.dat] (.tup [chD y.best, y.cert.dat, .lit .nilIface]) := by
  have h := hy.fine
  have b := PBest_ok (G := G) hG hy
  have g := PGrow (G := G) hG h (best_szq h) (m := vol Ix.zero y.top + 1) (zero_le_top y) (top_lt h) (by omega) (fun x _ hx => best_all h x hx)
  have g : Spec Tryz.prog G 52 [y.raw.dat, Ix.zero.dat, y.top.dat, F y.best.2] (.tup [y.cert.dat, .lit .nilIface]) := g
  generalize y.cert = t at g
  generalize y.best = c at b g
  exact Spec.of_run hG Tryz.func22 (ro := [1]) (m := 60) [.call b, .call (PLast hG h), .call g] (by kernel_rfl)
theorem PMake_bad (hG : Steady G) {x : RCt} (hd : x.digs) (hb : x.far) (hs : x.short) (h : x.code ≠ 0) : Spec Tryz.prog G 22 [x.dat] (.tup [chD (Ix.zero, 0), (Bt.leaf 0 0).dat, errno x.code]) := by
  have b := PBest_bad (G := G) hG hd hb hs h
  generalize x.code = c at b
  exact Spec.of_run hG Tryz.func22 (ro := [1]) (m := 60) [.call b] (by kernel_rfl)
theorem PVerify_bad (hG : Steady G) {x : RCt} (hd : x.digs) (hb : x.far) (hs : x.short) (h : x.code ≠ 0) (ix : I4) (r : Raw) (t : Bt) : Spec Tryz.prog G 28 [x.dat, chR ix r, t.dat] (.tup [bool false, errno x.code]) := by
  have b := PCost_bad hd hb hs (G := G) hG ix h
  generalize x.code = c at b
  exact Spec.of_run hG Tryz.func28 (ro := [3, 4, 5]) (m := 60) [.call b] (by kernel_rfl)
theorem PVerify_out (hG : Steady G) {x : RCt} (hd : x.digs) (hb : x.far) (hs : x.short) (h : x.code = 0) {ix : I4} (h2 : ¬ inside x ix ix) (r : Raw) (t : Bt) : Spec Tryz.prog G 28 [x.dat, chR ix r, t.dat] (.tup [bool false, errno 9]) :=
  Spec.of_run hG Tryz.func28 (ro := [3, 4, 5]) (m := 60) [.call (PCost_out hd hb hs hG ix h h2)] (by kernel_rfl)
theorem PVerify_ok (hG : Steady G) {y : Cat} (hy : y.good G) {x : Ix} (hx : x.lt y.size) {r : Raw} (hr : r.ok 8000) {t : Bt} (ht : t.wf) : Spec Tryz.prog G 28 [y.raw.dat, chR x.i4 r, t.dat] (.tup [bool (y.ver x r t), .lit .nilIface]) := by
  have kb := KB_eq
  have h := hy.fine
  have co := PCost_ok hy hG hx
  have v := FValid_spec (G := G) hG hr (by omega)
  have sq := f_sz h hx
  have cm : Spec Tryz.prog G 31 [F (y.f x), r.dat] (int (cmpQ (y.f x) r.q)) := FCmp_spec (G := G) hG sq.isQ (Raw.ok.isQ hr) (by omega) (by omega)
  have pr := PProves (G := G) hG h sq ht (zero_le_top y) (top_lt h)
  have la := PLast (G := G) hG h
  have co : Spec Tryz.prog G 12 [y.raw.dat, x.dat] (.tup [F (y.f x), .lit .nilIface]) := co
  unfold Cat.ver
  generalize proveT y.low (y.f x) Ix.zero y.top t = p at pr
  generalize y.f x = q at co cm pr
  cases hv : r.valid with
  | false =>
    rw [hv] at v
    exact Spec.of_run hG Tryz.func28 (ro := [3, 4, 5]) (m := 60) [.call co, .call v] (by kernel_rfl)
  | true =>
    rw [hv] at v
    by_cases hq : q = r.q
    · rw [decide_eq_true hq]
      exact Spec.of_run hG Tryz.func28 (ro := [3, 4, 5]) (m := 60) [.call co, .call v, .call cm, .eq 29 (Lw.eqB (cmp_bneF hq)), .call la, .call pr] (by kernel_rfl)
    · rw [decide_eq_false hq]
      exact Spec.of_run hG Tryz.func28 (ro := [3, 4, 5]) (m := 60) [.call co, .call v, .call cm, .eq 29 (Lw.eqB (cmp_bneT hq))] (by kernel_rfl)
theorem RVerify_ok (hG : Steady G) {y : Cat} (h : y.fine) {x : Ix} (hx : x.lt y.size) {r : Raw} (hr : r.ok 8000) {t : Bt} (ht : t.wf) : Spec Tryz.prog G 29 [y.raw.dat, chR x.i4 r, t.dat] (bool (y.ver x r t)) := by
  have kb := KB_eq
  have co := RCost49 (G := G) hG h hx
  have v := RFValid_spec (G := G) hG hr (by omega)
  have sq := f_sz h hx
  have cm : Spec Tryz.prog G 40 [r.dat, F (y.f x)] (int (cmpQ r.q (y.f x))) := RFCmp_spec (G := G) hG (Raw.ok.isQ hr) sq.isQ (by omega)
  have pr := RProves (G := G) hG h sq ht (zero_le_top y) (top_lt h)
  have la := RAll (G := G) hG h
  have co : Spec Tryz.prog G 18 [y.raw.dat, x.dat] (F (y.f x)) := co
  unfold Cat.ver
  generalize proveT y.low (y.f x) Ix.zero y.top t = p at pr
  generalize y.f x = q at co cm pr
  cases hv : r.valid with
  | false =>
    rw [hv] at v
    exact Spec.of_run hG Tryz.func29 (ro := [3, 4, 5]) (m := 60) [.call la, .call co, .call v] (by kernel_rfl)
  | true =>
    rw [hv] at v
    by_cases hq : q = r.q
    · rw [decide_eq_true hq]
      exact Spec.of_run hG Tryz.func29 (ro := [3, 4, 5]) (m := 60) [.call la, .call co, .call v, .call cm, .eq 27 (Lw.eqB (cmp_eq hq.symm)), .call pr] (by kernel_rfl)
    · rw [decide_eq_false hq]
      exact Spec.of_run hG Tryz.func29 (ro := [3, 4, 5]) (m := 60) [.call la, .call co, .call v, .call cm, .eq 27 (Lw.eqB (cmp_ne (fun e => hq e.symm)))] (by kernel_rfl)

/-! ### the example -/
theorem whole1 (hG : Steady G) : Spec Tryz.prog G 64 [.row 1 false [int 2]] (.row 1 false (cQ 2)) :=
  Spec.of_run hG Tryz.func64 (ro := []) (m := 60) [.call (RTwo hG)] (by kernel_rfl)
theorem whole2 (hG : Steady G) : Spec Tryz.prog G 64 [.row 2 false [int 1, int 2]] (.row 2 false (cQ 1 ++ cQ 2)) :=
  Spec.of_run hG Tryz.func64 (ro := []) (m := 60) [.call (ROne hG), .call (RTwo hG)] (by kernel_rfl)
def yE : Cat := ⟨[2], [1, 2], [1, 2], [2], [⟨0, false, 0, false⟩]⟩
theorem Example49 (hG : Steady G) : Spec Tryz.prog G 35 [] yE.raw.dat :=
  Spec.of_run hG Tryz.func35 (ro := []) (m := 60) [.call (whole1 hG), .call (whole2 hG), .call (whole2 hG), .call (whole1 hG)] (by kernel_rfl)
theorem fine2 : fineL [(2 : Rat)] := ⟨by decide, by decide, fun q hq => by simp at hq; subst hq; exact ⟨sz_2, by decide +kernel⟩, fun i hi => by simp at hi⟩
theorem fine12 : fineL [(1 : Rat), 2] := ⟨by decide, by decide, fun q hq => by
    simp at hq
    rcases hq with rfl | rfl
    · exact ⟨sz_1, by decide +kernel⟩
    · exact ⟨sz_2, by decide +kernel⟩, fun i hi => by
    have : i = 0 := by simp at hi; omega
    subst this
    decide +kernel⟩
theorem yE_fine : yE.fine := by
  refine ⟨fun j hj => ?_, ⟨by decide, by decide⟩, fun v hv => ?_⟩
  · rcases four_cases hj with rfl | rfl | rfl | rfl
    · exact fine2
    · exact fine12
    · exact fine12
    · exact fine2
  · have : v = ⟨0, false, 0, false⟩ := by simpa [yE] using hv
    subst this
    exact ⟨sz_zero (by omega), sz_zero (by omega), fun h => (by cases h), fun h => (by cases h)⟩
theorem fine_ok {l : List Rat} (h : fineL l) : ∀ r ∈ l.map rawOf, r.ok 1 := fun r hr => by
  obtain ⟨q, hq, rfl⟩ := List.mem_map.1 hr
  exact (h.2.2.1 q hq).1.ok
theorem fine_list {l : List Rat} (h : fineL l) : listOk (l.map rawOf) := by
  refine ⟨⟨.inl (by rw [List.length_map]; exact h.2.1), by have := h.2.1; rw [List.length_map]; omega⟩, fun r hr => ?_⟩
  have := fine_ok h r hr
  exact ⟨this.2.2.1, this.2.2.2.1⟩
theorem fine_digs {y : Cat} (h : y.fine) : y.raw.digs := by
  have f : ∀ j, j < 4 → ∀ r ∈ (y.list j).map rawOf, r.digs := fun j hj r hr => ⟨(fine_ok (h.1 j hj) r hr).1, (fine_ok (h.1 j hj) r hr).2.1⟩
  refine ⟨f 0 (by omega), f 1 (by omega), f 2 (by omega), f 3 (by omega), fun p hp => ?_⟩
  obtain ⟨v, hv, rfl⟩ := List.mem_map.1 hp
  have ok := Vp.raw_ok (h.2.2 v hv)
  exact ⟨⟨ok.1.1, ok.1.2.1⟩, ⟨ok.2.1, ok.2.2.1⟩⟩
theorem fine_far {y : Cat} (h : y.fine) : y.raw.far := by
  have f : ∀ j, j < 4 → ((y.list j).map rawOf).length ≤ 9223372036854775807 := fun j hj => by have := (h.1 j hj).2.1; rw [List.length_map]; omega
  exact ⟨f 0 (by omega), f 1 (by omega), f 2 (by omega), f 3 (by omega), by have := h.2.1.2; show (y.p.map Vp.raw).length ≤ _; rw [List.length_map]; omega⟩
theorem fine_short {y : Cat} (h : y.fine) : y.raw.short := by
  refine ⟨fun j hj => by rw [Cat.raw_list]; exact fine_list (h.1 j hj), fun p hp => ?_, by have := h.2.1.2; show (y.p.map Vp.raw).length ≤ 60; rw [List.length_map]; omega⟩
  obtain ⟨v, hv, rfl⟩ := List.mem_map.1 hp
  have ok := Vp.raw_ok (h.2.2 v hv)
  exact ⟨ok.1.2.2.1, ok.1.2.2.2.1, ok.2.2.2.1, ok.2.2.2.2.1⟩
theorem good_of (hG : Steady G) {y : Cat} (h : y.fine) (hc : y.raw.code = 0) : y.good G := by
  have ck := PCheck (G := G) hG (fine_digs h) (fine_far h) (fine_short h)
  rw [hc] at ck
  exact ⟨h, ck⟩
theorem yE_good (hG : Steady G) : yE.good G := good_of hG yE_fine (by decide +kernel)
theorem yE_best : yE.best = (⟨0, 1, 1, 0⟩, 0) := by
  have e1 : yE.best.1 = ⟨0, 1, 1, 0⟩ := by decide +kernel
  have e2 : yE.best.2 = 0 := by decide +kernel
  exact Prod.ext e1 e2
theorem yE_zero : yE.low Ix.zero Ix.zero = 64 := by decide +kernel
theorem sz_64 : SzQ 1 (64 : Rat) := by unfold SzQ; decide +kernel
theorem Text_64 (hG : Steady G) : Spec Tryz.prog G 66 [wv false 64] (txt [54, 52]) :=
  Spec.of_run hG Tryz.func66 (ro := [1, 36]) (m := 60)
    [.call (mag_spec (s := false) (n := 64) hG (by simp) (len_small (by omega))), .call (short_nine hG (n := 64) (by omega)), .inl [] Tryz.func104, .inl [] Tryz.func130, .inl [] Tryz.func154, .inl [] Tryz.func164,
     .inl [] Tryz.func106, .call (neg_spec (s := false) (n := 64) hG (by simp) (len_small (by omega)))] (by kernel_rfl)
theorem FText_64 (hG : Steady G) : Spec Tryz.prog G 36 [F 64] (txt [54, 52]) := FText_int hG sz_64.isQ (by rw [KB_eq]; omega) (n := 64) rfl rfl (Text_64 hG)
theorem ver_cert {y : Cat} (h : y.fine) : y.ver y.best.1 (rawOf y.best.2) y.cert = true := by
  obtain ⟨a, b⟩ := best_at' h
  have g : proveT y.low (y.f y.best.1) Ix.zero y.top y.cert = true := by
    rw [← b]
    exact grow_proves (zero_le_top y) (by omega) (fun x _ hx => best_all h x hx)
  unfold Cat.ver
  rw [rawOf_valid, rawOf_q, decide_eq_true b.symm, g]; rfl
theorem awake49 (hG : Steady G) : Spec Tryz.prog G 10 [] (bool true) := by
  have hy := yE_good hG
  have b := PBest_ok (G := G) hG hy
  have c := PCost_ok hy hG (x := Ix.zero) (Cat.size0 yE_fine)
  have m := PMake_ok (G := G) hG hy
  have v := PVerify_ok (G := G) hG hy (x := yE.best.1) (r := rawOf yE.best.2) (t := yE.cert) (best_at' yE_fine).1 ((best_szq yE_fine).mono (by omega)).ok (grow_wf _ _ _ _ _)
  rw [ver_cert yE_fine] at v
  generalize yE.cert = t at m v
  rw [yE_best] at b m v
  rw [yE_zero] at c
  have sg := FSign_spec (G := G) hG (isQ_zero) (by rw [KB_eq]; omega)
  exact Spec.of_run hG Tryz.func10 (ro := []) (m := 60)
    [.call (Example49 hG), .call b, .call (Example49 hG), .call c, .call (Example49 hG), .call m, .call (Example49 hG), .call v, .call sg, .call (FText_64 hG)] (by kernel_rfl)

/-! ### CatalogueChecks, CatalogueBounds -/
theorem eq0_f {c : Int} (h : c ≠ 0) : (c == 0) = false := beq_eq_false_iff_ne.2 h
theorem ne0_t {c : Int} (h : c ≠ 0) : (c != 0) = true := bne_iff_ne.2 h
theorem bne_self' (c : Int) : (c != c) = false := by simp
theorem beq_self' (c : Int) : (c == c) = true := by simp
theorem Checks_spec (hG : Steady G) {x : RCt} (hd : x.digs) (hb : x.far) (ix : I4) : Spec Tryz.prog G 3 [x.dat, ix.dat] (bool true) := by
  have aw := awake49 (G := G) hG
  have sh := CShort (G := G) hG hb
  have kb := KB_eq
  have z0 := FRat_same (G := G) (a := 0) hG (sz_zero (k := 1) (by omega)) (by omega)
  by_cases hs : x.short
  case neg =>
    rw [decide_eq_false hs] at sh
    exact Spec.of_run hG Tryz.func3 (ro := [2, 3]) (m := 60) [.call aw, .call sh, .call aw] (by kernel_rfl)
  rw [decide_eq_true hs] at sh
  have rc := RCheck (G := G) hG hd hb hs
  have pc := PCheck (G := G) hG hd hb hs
  by_cases hc : x.code = 0
  case neg =>
    have co := PCost_bad hd hb hs (G := G) hG ix hc
    rw [errOf_ne hc] at pc
    generalize x.code = c at rc pc co hc
    exact Spec.of_run hG Tryz.func3 (ro := [2, 3]) (m := 60)
      [.call aw, .call sh, .call co, .call rc, .call pc, .call (Num_err hG c), .eq 28 (Lw.eqB (bne_self' c)), .eq 30 (Lw.eqB (eq0_f hc)), .eq 39 (Lw.eqB (ne0_t hc)), .call (Num_err hG c), .eq 43 (Lw.eqB (beq_self' c)), .call z0] (by kernel_rfl)
  have ins := RInside (G := G) hG x ix ix
  by_cases hi : inside x ix ix
  case neg =>
    rw [decide_eq_false hi] at ins
    have co := PCost_out hd hb hs hG ix hc hi (G := G)
    rw [hc] at rc pc
    exact Spec.of_run hG Tryz.func3 (ro := [2, 3]) (m := 60)
      [.call aw, .call sh, .call co, .call rc, .call pc, .call (Num_nil hG), .call ins, .call (Num_err hG 9), .call z0] (by kernel_rfl)
  rw [decide_eq_true hi] at ins
  obtain ⟨y, fy, rfl⟩ := cat_of hd hs hc
  obtain ⟨l, m, el, em, h1, h2⟩ := inside_ix hi
  subst el
  have gy := good_of (G := G) hG fy hc
  have hl : l.lt y.size := Ix.lt_of_le h1 h2
  have co := PCost_ok gy hG hl
  have rco := RCost49 (G := G) hG fy hl
  have same := FRat_same (G := G) hG (f_sz fy hl) (by omega)
  have same : Spec Tryz.prog G 17 [F (y.low l l), F (y.low l l)] (bool true) := same
  rw [hc] at rc pc
  generalize y.low l l = q at co rco same
  exact Spec.of_run hG Tryz.func3 (ro := [2, 3]) (m := 60)
    [.call aw, .call sh, .call co, .call rc, .call pc, .call (Num_nil hG), .call ins, .call rco, .call same] (by kernel_rfl)
theorem Bounds_spec (hG : Steady G) {x : RCt} (hd : x.digs) (hb : x.far) (lo hi : I4) : Spec Tryz.prog G 4 [x.dat, lo.dat, hi.dat] (bool true) := by
  have aw := awake49 (G := G) hG
  have sh := CShort (G := G) hG hb
  have kb := KB_eq
  have z0 := FRat_same (G := G) (a := 0) hG (sz_zero (k := 1) (by omega)) (by omega)
  by_cases hs : x.short
  case neg =>
    rw [decide_eq_false hs] at sh
    exact Spec.of_run hG Tryz.func4 (ro := [3, 4, 5]) (m := 60) [.call aw, .call sh, .call aw] (by kernel_rfl)
  rw [decide_eq_true hs] at sh
  have rc := RCheck (G := G) hG hd hb hs
  by_cases hc : x.code = 0
  case neg =>
    have co := PLower_bad hd hb hs (G := G) hG lo hi hc
    generalize x.code = c at rc co hc
    exact Spec.of_run hG Tryz.func4 (ro := [3, 4, 5]) (m := 60)
      [.call aw, .call sh, .call co, .call rc, .eq 28 (Lw.eqB (eq0_f hc)), .eq 37 (Lw.eqB (ne0_t hc)), .call (Num_err hG c), .eq 41 (Lw.eqB (beq_self' c)), .call z0] (by kernel_rfl)
  have ins := RInside (G := G) hG x lo hi
  by_cases hi' : inside x lo hi
  case neg =>
    rw [decide_eq_false hi'] at ins
    have co := PLower_out hd hb hs hG lo hi hc hi' (G := G)
    rw [hc] at rc
    exact Spec.of_run hG Tryz.func4 (ro := [3, 4, 5]) (m := 60)
      [.call aw, .call sh, .call co, .call rc, .call ins, .call (Num_err hG 9), .call z0] (by kernel_rfl)
  rw [decide_eq_true hi'] at ins
  obtain ⟨y, fy, rfl⟩ := cat_of hd hs hc
  obtain ⟨l, m, el, em, h1, h2⟩ := inside_ix hi'
  subst el em
  have gy := good_of (G := G) hG fy hc
  have co := PLower_ok gy hG h1 h2
  have rco := RLower49 (G := G) hG fy h1 h2
  have same := FRat_same (G := G) hG (low_sz fy h1 h2) (by omega)
  rw [hc] at rc
  generalize y.low l m = q at co rco same
  exact Spec.of_run hG Tryz.func4 (ro := [3, 4, 5]) (m := 60)
    [.call aw, .call sh, .call co, .call rc, .call ins, .call rco, .call same] (by kernel_rfl)
end Lw
