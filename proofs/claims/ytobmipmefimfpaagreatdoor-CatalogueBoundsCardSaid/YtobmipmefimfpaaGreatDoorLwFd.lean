/- Lists of pairs: lengths, checks, fits. No condition. -/
import Derived.Test.YtobmipmefimfpaaGreatDoorLwFc
namespace Lw
open Go Go.RowKit Go.Proofs

variable {G : World → Prop}

theorem gtk_true {n k : Nat} (h : ¬ n ≤ k) : decide (Int.ofNat n > Int.ofNat k) = true := by simp only [Int.ofNat_eq_natCast, decide_eq_true_eq]; omega
theorem gtk_false {n k : Nat} (h : n ≤ k) : decide (Int.ofNat n > Int.ofNat k) = false := by simp only [Int.ofNat_eq_natCast, decide_eq_false_iff_not]; omega
theorem le_k {n k : Nat} : decide (Int.ofNat n ≤ Int.ofNat k) = decide (n ≤ k) := by
  refine decide_eq_decide.2 ?_
  simp only [Int.ofNat_eq_natCast]; omega
theorem ne_k {n k : Nat} : (Int.ofNat n != Int.ofNat k) = decide (n ≠ k) := by
  by_cases h : n = k
  · subst h; simp
  · rw [decide_eq_true h, bne_iff_ne]; intro e; exact h (Int.ofNat.inj e)
theorem cmp_bneF {a b : Rat} (h : a = b) : (cmpQ a b != 0) = false := by
  have := cmp_eq h
  rw [beq_iff_eq] at this
  rw [this]; rfl
theorem cmp_bneT {a b : Rat} (h : ¬ a = b) : (cmpQ a b != 0) = true := by
  have := cmp_ne h
  rw [beq_eq_false_iff_ne] at this
  exact bne_iff_ne.2 this

/-! ### Short -/
def gshInv (l : List RPr) (i : Nat) : St := lay 69 [(1, rowS RPr.cells l), (36, rowS RPr.cells l), (37, nat l.length), (38, nat i)] []
def GShortP (r : RGn) (l : List RPr) : Prop := r.short ∧ (∀ p ∈ l, p.short) ∧ l.length ≤ 60
instance (r : RGn) (l : List RPr) : Decidable (GShortP r l) := by unfold GShortP; infer_instance
/-! ### checks of lists -/
def rpsInv (l : List RPr) (i : Nat) : St := lay 15 [(5, rowS RPr.cells l), (6, nat l.length), (7, nat i)] []
theorem rps_round (hG : Steady G) {l : List RPr} {i : Nat} (hi : i < l.length) (hb : l.length ≤ 9223372036854775807) {k : Nat} (hk : ∀ r ∈ l, r.ok k) (hkb : k ≤ KB) :
    ((l.getD i RPr.zero).valid = true → Goes Tryz.prog G 0 (loopOf Tryz.f41 0) (rpsInv l i) .normal (rpsInv l (i + 1))) ∧
    ((l.getD i RPr.zero).valid = false → Goes Tryz.prog G 0 (loopOf Tryz.f41 0) (rpsInv l i) .ret (lay 15 [(2, bool false)] [])) := by
  have e := aggS RPr.cells_len hi RPr.zero
  have v := GRPair (G := G) hG (hk _ (getD_mem hi RPr.zero)) hkb
  have n1 := atS_need RPr.cells_len (by omega) hi
  have n2 := loadS_need RPr.cells_len (by omega) hi
  generalize l.getD i RPr.zero = r at e v
  constructor
  · intro hv
    rw [hv] at v
    exact Goes.of_run hG (ro := []) (m := 60) (lay_len ..) [.eq 8 (Lw.eqB (lt_true hi)), .prop n1, .prop n2, .eq 10 e, .call v, .eq 14 (eqS (nat_succ' hi hb))] (by kernel_rfl)
  · intro hv
    rw [hv] at v
    exact Goes.of_run hG (ro := []) (m := 60) (lay_len ..) [.eq 8 (Lw.eqB (lt_true hi)), .prop n1, .prop n2, .eq 10 e, .call v] (by kernel_rfl)
def allValid (l : List RPr) : Prop := ∀ r ∈ l, r.valid = true
instance (l : List RPr) : Decidable (allValid l) := by unfold allValid; infer_instance
theorem RPairs (hG : Steady G) {l : List RPr} (hb : l.length ≤ 9223372036854775807) {k : Nat} (hk : ∀ r ∈ l, r.ok k) (hkb : k ≤ KB) : Spec Tryz.prog G 41 [rowS RPr.cells l] (bool (decide (allValid l))) := by
  rcases all_or_first (fun r => RPr.valid r = true) RPr.zero l with h | ⟨i, h1, h2, h3⟩
  · rw [decide_eq_true (show allValid l from h)]
    have lp := Abs.count (P := Tryz.prog) (Good := G) (gb := 0) (body := loopOf Tryz.f41 0) (e := .exit 0) (s' := rpsInv l l.length) (fun i => rpsInv l i) l.length (fun i => lay_len ..) (by intro h; cases h)
      (fun i hi => (rps_round hG hi hb hk hkb).1 (h _ (getD_mem hi _))) (Goes.of_run hG (ro := []) (m := 60) (lay_len ..) [.eq 8 (Lw.eqB (lt_false (Nat.le_refl l.length)))] (by kernel_rfl))
    exact Spec.of_run hG Tryz.func41 (ro := []) (m := 60) [.code lp] (by kernel_rfl)
  · rw [decide_eq_false fun h => h2 (h _ (getD_mem h1 _))]
    have lp := Abs.count (P := Tryz.prog) (Good := G) (gb := 0) (body := loopOf Tryz.f41 0) (e := .ret) (s' := lay 15 [(2, bool false)] []) (fun i => rpsInv l i) i (fun i => lay_len ..) (by intro h; cases h)
      (fun j hj => (rps_round hG (by omega) hb hk hkb).1 (h3 j hj)) ((rps_round hG h1 hb hk hkb).2 (by simpa using h2))
    exact Spec.of_run hG Tryz.func41 (ro := []) (m := 60) [.code lp] (by kernel_rfl)
/-- The number of the error of three pairs. -/
def threeCode (l : List RPr) : Int := if l.length ≠ 3 then 10 else if allValid l then 0 else 2
def gckInv (l : List RPr) (i : Nat) : St := lay 20 [(9, rowS RPr.cells l), (10, nat l.length), (11, nat i)] []
/-! ### Fits -/
def Vp.none : Vp := ⟨0, false, 0, false⟩
theorem map_getD {α β : Type} (f : α → β) {l : List α} {i : Nat} (h : i < l.length) (d : β) (d' : α) : (l.map f).getD i d = f (l.getD i d') := by
  rw [List.getD_eq_getElem?_getD, List.getD_eq_getElem?_getD, List.getElem?_map, List.getElem?_eq_getElem h]; rfl
theorem pairs_of {k : Nat} : ∀ {l : List RPr}, (∀ r ∈ l, r.ok k) → allValid l → ∃ vs : List Vp, (∀ v ∈ vs, v.ok k) ∧ l = vs.map Vp.raw
  | [], _, _ => ⟨[], (fun v h => by cases h), rfl⟩
  | r :: l, h, g => by
    obtain ⟨vs, h1, h2⟩ := pairs_of (l := l) (fun x hx => h x (by simp [hx])) (fun x hx => g x (by simp [hx]))
    obtain ⟨v, h3, h4⟩ := RPr.valid_elim (h r (by simp)) (g r (by simp))
    refine ⟨v :: vs, fun x hx => ?_, by rw [h2, h4]; rfl⟩
    rcases List.mem_cons.1 hx with rfl | hx
    · exact h3
    · exact h1 x hx
def fv1Inv (r : RGn) (l : List RPr) (i : Nat) : St := lay 52 [(1, rowS RPr.cells l), (2, .rptr r.cells), (22, rowS RPr.cells l), (23, nat l.length), (24, nat i)] []
theorem fv1_round (hG : Steady G) (x : RGn) {l : List RPr} {i : Nat} (hi : i < l.length) (hb : l.length ≤ 9223372036854775807) {k : Nat} (hk : ∀ r ∈ l, r.ok k) (hkb : k ≤ KB) :
    ((l.getD i RPr.zero).valid = true → Goes Tryz.prog G 0 (loopOf Tryz.f34 0) (fv1Inv x l i) .normal (fv1Inv x l (i + 1))) ∧
    ((l.getD i RPr.zero).valid = false → Goes Tryz.prog G 0 (loopOf Tryz.f34 0) (fv1Inv x l i) .ret (lay 52 [(4, bool false), (5, errno 2)] [])) := by
  have e := aggS RPr.cells_len hi RPr.zero
  have v := GPvalid (G := G) hG (hk _ (getD_mem hi RPr.zero)) hkb
  have n1 := atS_need RPr.cells_len (by omega) hi
  have n2 := loadS_need RPr.cells_len (by omega) hi
  generalize l.getD i RPr.zero = r at e v
  constructor
  · intro hv
    rw [hv] at v
    exact Goes.of_run hG (ro := []) (m := 60) (lay_len ..) [.eq 25 (Lw.eqB (lt_true hi)), .prop n1, .prop n2, .eq 27 e, .call v, .eq 32 (eqS (nat_succ' hi hb))] (by kernel_rfl)
  · intro hv
    rw [hv] at v
    exact Goes.of_run hG (ro := []) (m := 60) (lay_len ..) [.eq 25 (Lw.eqB (lt_true hi)), .prop n1, .prop n2, .eq 27 e, .call v] (by kernel_rfl)
def fv2Inv (x : Gn) (vs : List Vp) (i : Nat) : St := lay 52 [(2, .rptr x.raw.cells), (33, rowS RPr.cells (vs.map Vp.raw)), (34, nat vs.length), (35, nat i)] []
theorem fv2_round (hG : Steady G) {n k : Nat} {x : Gn} {vs : List Vp} (hx : x.ok n) (hf : x.fine) (hv : ∀ v ∈ vs, v.ok k) (hk : 13 * n + 48 * k + 100 ≤ KB) {i : Nat} (hi : i < vs.length) (hb : vs.length ≤ 9223372036854775807) :
    (x.err (vs.getD i Vp.none).pr.row = 0 → Goes Tryz.prog G 0 (loopOf Tryz.f34 1) (fv2Inv x vs i) .normal (fv2Inv x vs (i + 1))) ∧
    (¬ x.err (vs.getD i Vp.none).pr.row = 0 → Goes Tryz.prog G 0 (loopOf Tryz.f34 1) (fv2Inv x vs i) .ret (lay 52 [(4, bool false), (5, .lit .nilIface)] [])) := by
  have hi' : i < (vs.map Vp.raw).length := by rw [List.length_map]; exact hi
  have e := aggS RPr.cells_len hi' RPr.zero
  rw [map_getD Vp.raw hi RPr.zero Vp.none] at e
  have n1 := atS_need RPr.cells_len (by omega) hi'
  rw [List.length_map] at n1
  have n2 := loadS_need RPr.cells_len (by omega) hi'
  have ov := hv _ (getD_mem hi Vp.none)
  have er := Error_ok (G := G) hG hx hf ov hk
  have sg := FSign_spec (G := G) hG (Gn.err_sz hx (Vp.row_ok ov)).isQ (by omega)
  have n1' : ((0:Int) ≤ Int.ofNat i ∧ Int.ofNat i < ((vs.map Vp.raw).length : Int)) ∧ (Int.ofNat i).toNat * 8 < ((vs.map Vp.raw).flatMap RPr.cells).length := atS_need RPr.cells_len (by omega) hi'
  generalize vs.getD i Vp.none = v at e er sg ov
  constructor
  · intro h0
    rw [sgn_zero.2 h0] at sg
    exact Goes.of_run hG (ro := []) (m := 60) (lay_len ..) [.eq 36 (Lw.eqB (lt_true hi)), .prop n1', .prop n2, .eq 38 e, .call er, .call sg, .eq 51 (eqS (nat_succ' hi hb))] (by kernel_rfl)
  · intro h0
    exact Goes.of_run hG (ro := []) (m := 60) (lay_len ..) [.eq 36 (Lw.eqB (lt_true hi)), .prop n1', .prop n2, .eq 38 e, .call er, .call sg, .eq 50 (Lw.eqB (sgn_nz h0))] (by kernel_rfl)
def fitsAll (x : Gn) (vs : List Vp) : Prop := ∀ v ∈ vs, x.err v.pr.row = 0
instance (x : Gn) (vs : List Vp) : Decidable (fitsAll x vs) := by unfold fitsAll; infer_instance
theorem Fits_bad1 (hG : Steady G) {n : Nat} {r : RGn} (l : List RPr) (hr : r.ok n) (hn : n ≤ KB) (hc : ¬ r.code = 0) : Spec Tryz.prog G 34 [r.dat, rowS RPr.cells l] (.tup [bool false, errno r.code]) := by
  have ck := GCheck (G := G) hG hr hn
  unfold errOf at ck
  rw [if_neg hc] at ck
  exact Spec.of_run hG Tryz.func34 (ro := [2]) (m := 60) [.call ck] (by kernel_rfl)
theorem Fits_long (hG : Steady G) {n : Nat} {r : RGn} {l : List RPr} (hr : r.ok n) (hn : n ≤ KB) (hc : r.code = 0) (hl : ¬ l.length ≤ 16) : Spec Tryz.prog G 34 [r.dat, rowS RPr.cells l] (.tup [bool false, errno 10]) := by
  have ck := GCheck (G := G) hG hr hn
  rw [hc] at ck
  exact Spec.of_run hG Tryz.func34 (ro := [2]) (m := 60) [.call ck, .eq 20 (Lw.eqB (gtk_true hl))] (by kernel_rfl)
theorem Fits_bad2 (hG : Steady G) {n k : Nat} {r : RGn} {l : List RPr} (hr : r.ok n) (hn : n ≤ KB) (hc : r.code = 0) (hl : l.length ≤ 16) (hk : ∀ p ∈ l, p.ok k) (hkb : k ≤ KB) (hv : ¬ allValid l) : Spec Tryz.prog G 34 [r.dat, rowS RPr.cells l] (.tup [bool false, errno 2]) := by
  have ck := GCheck (G := G) hG hr hn
  rw [hc] at ck
  rcases all_or_first (fun r => RPr.valid r = true) RPr.zero l with h | ⟨i, g1, g2, g3⟩
  · exact absurd h hv
  · have lp := Abs.count (P := Tryz.prog) (Good := G) (gb := 0) (body := loopOf Tryz.f34 0) (e := .ret) (s' := lay 52 [(4, bool false), (5, errno 2)] []) (fun i => fv1Inv r l i) i (fun i => lay_len ..) (by intro h; cases h)
      (fun j hj => (fv1_round hG r (by omega) (by omega) hk hkb).1 (g3 j hj)) ((fv1_round hG r g1 (by omega) hk hkb).2 (by simpa using g2))
    exact Spec.of_run hG Tryz.func34 (ro := [2]) (m := 60) [.call ck, .eq 20 (Lw.eqB (gtk_false hl)), .code lp] (by kernel_rfl)
theorem Fits_ok (hG : Steady G) {n k : Nat} {x : Gn} {vs : List Vp} (hx : x.ok n) (hf : x.fine) (hv : ∀ v ∈ vs, v.ok k) (hk : 13 * n + 48 * k + 100 ≤ KB) (hl : vs.length ≤ 16) : Spec Tryz.prog G 34 [x.dat, rowS RPr.cells (vs.map Vp.raw)] (.tup [bool (decide (fitsAll x vs)), .lit .nilIface]) := by
  have ck := GCheck (G := G) hG (Gn.raw_ok hx) (by omega)
  rw [fine_code hf] at ck
  have hl' : (vs.map Vp.raw).length ≤ 16 := by rw [List.length_map]; exact hl
  have hk' : ∀ r ∈ vs.map Vp.raw, r.ok k := fun r hr => by obtain ⟨v, h1, rfl⟩ := List.mem_map.1 hr; exact Vp.raw_ok (hv v h1)
  have hv' : ∀ r ∈ vs.map Vp.raw, r.valid = true := fun r hr => by obtain ⟨v, h1, rfl⟩ := List.mem_map.1 hr; exact Vp.raw_valid (hv v h1)
  have l1 := Abs.count (P := Tryz.prog) (Good := G) (gb := 0) (body := loopOf Tryz.f34 0) (e := .exit 0) (s' := fv1Inv x.raw (vs.map Vp.raw) (vs.map Vp.raw).length) (fun i => fv1Inv x.raw (vs.map Vp.raw) i) (vs.map Vp.raw).length (fun i => lay_len ..) (by intro h; cases h)
    (fun i hi => (fv1_round hG x.raw hi (by omega) hk' (by omega)).1 (hv' _ (getD_mem hi _))) (Goes.of_run hG (ro := []) (m := 60) (lay_len ..) [.eq 25 (Lw.eqB (lt_false (Nat.le_refl (vs.map Vp.raw).length)))] (by kernel_rfl))
  have el : nat (vs.map Vp.raw).length = nat vs.length := by rw [List.length_map]
  rcases all_or_first (fun v : Vp => x.err v.pr.row = 0) Vp.none vs with h | ⟨i, h1, h2, h3⟩
  · rw [decide_eq_true (show fitsAll x vs from h)]
    have lp := Abs.count (P := Tryz.prog) (Good := G) (gb := 0) (body := loopOf Tryz.f34 1) (e := .exit 2) (s' := fv2Inv x vs vs.length) (fun i => fv2Inv x vs i) vs.length (fun i => lay_len ..) (by intro h; cases h)
      (fun i hi => (fv2_round hG hx hf hv hk hi (by omega)).1 (h _ (getD_mem hi _))) (Goes.of_run hG (ro := []) (m := 60) (lay_len ..) [.eq 36 (Lw.eqB (lt_false (Nat.le_refl vs.length)))] (by kernel_rfl))
    exact Spec.of_run hG Tryz.func34 (ro := [2]) (m := 60) [.call ck, .eq 20 (Lw.eqB (gtk_false hl')), .code l1, .eq 34 el, .code lp] (by kernel_rfl)
  · rw [decide_eq_false fun h => h2 (h _ (getD_mem h1 _))]
    have lp := Abs.count (P := Tryz.prog) (Good := G) (gb := 0) (body := loopOf Tryz.f34 1) (e := .ret) (s' := lay 52 [(4, bool false), (5, .lit .nilIface)] []) (fun i => fv2Inv x vs i) i (fun i => lay_len ..) (by intro h; cases h)
      (fun j hj => (fv2_round hG hx hf hv hk (by omega) (by omega)).1 (h3 j hj)) ((fv2_round hG hx hf hv hk h1 (by omega)).2 h2)
    exact Spec.of_run hG Tryz.func34 (ro := [2]) (m := 60) [.call ck, .eq 20 (Lw.eqB (gtk_false hl')), .code l1, .eq 34 el, .code lp] (by kernel_rfl)
def rfInv (x : Gn) (vs : List Vp) (i : Nat) : St := lay 30 [(2, .rptr x.raw.cells), (9, rowS RPr.cells (vs.map Vp.raw)), (10, nat vs.length), (11, nat i)] []
end Lw
