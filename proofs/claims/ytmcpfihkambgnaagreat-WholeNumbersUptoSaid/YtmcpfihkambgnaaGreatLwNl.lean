/- What the reference accepts as a tower of at most two roots. Condition: short fractions. -/
import Derived.Test.YtmcpfihkambgnaaGreatLwNk
namespace Lw
namespace Tw
open Go Go.RowKit Go.Proofs Fld
variable {G : World → Prop}

/-- Lists of fractions as they came in, and towers. -/
def rawD (l : List Raw) : D := rowS Raw.cells l
def rawT (t : List (List Raw)) : D := .agg [.row t.length false (t.map rawD)]
theorem canonD {l : List Raw} (h : ∀ r ∈ l, r.valid = true) : rawD l = NumD (l.map Raw.q) := by
  unfold rawD NumD rowS
  rw [List.length_map, List.flatMap_map]
  congr 1
  induction l with
  | nil => rfl
  | cons r l ih =>
    rw [List.flatMap_cons, List.flatMap_cons, ih fun x hx => h x (List.mem_cons_of_mem _ hx)]
    congr 1
    have e := valid_canon (h r List.mem_cons_self)
    unfold cF
    rw [← e]; rfl

/-! ### The reference -/
theorem rpow1 (hG : Steady G) : Spec Tryz.prog G 120 [nat 1] (.tup [nat 0, bool true]) :=
  Spec.of_run hG Tryz.func120 (ro := []) (m := 60) [] (by kernel_rfl)
theorem rpow2 (hG : Steady G) : Spec Tryz.prog G 120 [nat 2] (.tup [nat 1, bool true]) :=
  Spec.of_run hG Tryz.func120 (ro := []) (m := 60) [] (by kernel_rfl)
theorem rpow4 (hG : Steady G) : Spec Tryz.prog G 120 [nat 4] (.tup [nat 2, bool true]) :=
  Spec.of_run hG Tryz.func120 (ro := []) (m := 60) [] (by kernel_rfl)
theorem rpow0 (hG : Steady G) : Spec Tryz.prog G 120 [nat 0] (.tup [nat 0, bool false]) :=
  Spec.of_run hG Tryz.func120 (ro := []) (m := 60) [] (by kernel_rfl)
theorem rpow3 (hG : Steady G) : Spec Tryz.prog G 120 [nat 3] (.tup [nat 0, bool false]) :=
  Spec.of_run hG Tryz.func120 (ro := []) (m := 60) [] (by kernel_rfl)
theorem rplain0 (hG : Steady G) : Spec Tryz.prog G 177 [NumD [0]] (bool true) :=
  Spec.of_run hG Tryz.func177 (ro := []) (m := 60) [] (by kernel_rfl)
theorem rplain1 (hG : Steady G) {q : Rat} (hq : q ≠ 0) : Spec Tryz.prog G 177 [NumD [q]] (bool false) := by
  have n0 : q.num ≠ 0 := fun h => hq (by rw [← Rat.num_divInt_den q, h]; simp)
  have er : rawOf q = ⟨decide (q.num < 0), words q.num.natAbs, words q.den⟩ := by unfold rawOf; rw [if_neg n0]
  have en : 0 < (words q.num.natAbs).length := List.length_pos_iff.2 (words_some (by omega))
  have ed : NumD [q] = .row 1 false [bool (decide (q.num < 0)), rowW (words q.num.natAbs), rowW (words q.den)] := by
    unfold NumD rowS cF; rw [List.flatMap_cons, List.flatMap_nil, List.append_nil, er]; rfl
  rw [ed]
  generalize words q.num.natAbs = x at en
  generalize words q.den = y
  generalize decide (q.num < 0) = b
  have e17 : (Int.ofNat x.length != 0) = true := by rw [bne_iff_ne]; simp only [Int.ofNat_eq_natCast]; omega
  cases b with
  | true => exact Spec.of_run hG Tryz.func177 (ro := []) (m := 60) [] (by kernel_rfl)
  | false => exact Spec.of_run hG Tryz.func177 (ro := []) (m := 60) [.eq 17 (eqB e17)] (by kernel_rfl)
theorem rshort1z (hG : Steady G) : Spec Tryz.prog G 121 [NumD [0]] (NumD []) :=
  Spec.of_run hG Tryz.func121 (ro := [42]) (m := 60) [.call (rpow1 hG), .call (rplain0 hG)] (by kernel_rfl)
theorem rshort1 (hG : Steady G) {p : Rat} (hp : p ≠ 0) : Spec Tryz.prog G 121 [NumD [p]] (NumD [p]) :=
  Spec.of_run hG Tryz.func121 (ro := [42]) (m := 60) [.call (rpow1 hG), .call (rplain1 hG hp)] (by kernel_rfl)
theorem rshort2 (hG : Steady G) {p q : Rat} (hq : q ≠ 0) : Spec Tryz.prog G 121 [NumD [p, q]] (NumD [p, q]) :=
  Spec.of_run hG Tryz.func121 (ro := [42]) (m := 60) [.call (rpow2 hG), .call (rplain1 hG hq)] (by kernel_rfl)
theorem rshort2p (hG : Steady G) {p : Rat} (hp : p ≠ 0) : Spec Tryz.prog G 121 [NumD [p, 0]] (NumD [p]) :=
  Spec.of_run hG Tryz.func121 (ro := [42]) (m := 60) [.call (rpow2 hG), .call (rplain0 hG), .call (rplain1 hG hp)] (by kernel_rfl)
theorem rshort2z (hG : Steady G) : Spec Tryz.prog G 121 [NumD [0, 0]] (NumD []) :=
  Spec.of_run hG Tryz.func121 (ro := [42]) (m := 60) [.call (rpow2 hG), .call (rplain0 hG), .call (rplain0 hG)] (by kernel_rfl)
theorem rwide1 (hG : Steady G) (x : Rat) : Spec Tryz.prog G 178 [NumD [x], nat 1] (NumD [x]) :=
  Spec.of_run hG Tryz.func178 (ro := [8]) (m := 60) [] (by kernel_rfl)
theorem rwide2 (hG : Steady G) (x y : Rat) : Spec Tryz.prog G 178 [NumD [x, y], nat 2] (NumD [x, y]) :=
  Spec.of_run hG Tryz.func178 (ro := [8]) (m := 60) [] (by kernel_rfl)
theorem rtimes1 (hG : Steady G) {n : Nat} {xs : List D} {x y : Rat} {k : Nat} (hx : x ≠ 0) (hy : y ≠ 0) (sx : SzQ k x) (sy : SzQ k y) (hk : k ≤ KB) :
    Spec Tryz.prog G 180 [.agg [.row n false xs], NumD [x], NumD [y]] (NumD [x * y]) :=
  Spec.of_run hG Tryz.func180 (ro := [3]) (m := 60) [.call (rshort1 hG hx), .call (rshort1 hG hy), .call (RFMul_spec hG sx.isQ sy.isQ hk hk)] (by kernel_rfl)
theorem rless1 (hG : Steady G) {x : Rat} {k : Nat} (sx : SzQ k x) (hk : k ≤ KB) : Spec Tryz.prog G 181 [NumD [x]] (NumD [-x]) :=
  Spec.of_run hG Tryz.func181 (ro := [16]) (m := 60) [.call (RFNeg_spec hG sx.isQ hk)] (by kernel_rfl)
theorem rplus1 (hG : Steady G) {x y : Rat} {k : Nat} (sx : SzQ k x) (sy : SzQ k y) (hk : k ≤ KB) : Spec Tryz.prog G 179 [NumD [x], NumD [y]] (NumD [x + y]) :=
  Spec.of_run hG Tryz.func179 (ro := []) (m := 60) [.inl [] Tryz.func178, .call (rwide1 hG y), .call (RFAdd_spec hG sx.isQ sy.isQ hk hk)] (by kernel_rfl)
theorem rsign1 (hG : Steady G) {n : Nat} {xs : List D} {p : Rat} {k : Nat} (sp : SzQ k p) (hk : k ≤ KB) : Spec Tryz.prog G 54 [.agg [.row n false xs], NumD [p]] (int (sgn p)) := by
  by_cases hp : p = 0
  · subst hp
    exact Spec.of_run hG Tryz.func54 (ro := [2]) (m := 60) [.call (rshort1z hG)] (by kernel_rfl)
  · exact Spec.of_run hG Tryz.func54 (ro := [2]) (m := 60) [.call (rshort1 hG hp), .call (RFSign_spec hG sp.isQ hk)] (by kernel_rfl)
/-- The sign of p + q s, with s s = e, as the reference finds it. -/
def rsg (e p q : Rat) : Int := if q = 0 then sgn p else if sgn p = sgn q * sgn e ∨ sgn q * sgn e = 0 then sgn p else if sgn p = 0 then sgn q * sgn e else sgn p * sgn (p * p + -(q * q * e))
theorem rnorm (hG : Steady G) {e p q : Rat} {xs : List D} {n k : Nat} (hp : p ≠ 0) (hq : q ≠ 0) (he : e ≠ 0) (sp : SzQ k p) (sq : SzQ k q) (se : SzQ k e) (hk : 4 * k ≤ KB) :
    Spec Tryz.prog G 122 [.agg [.row (n + 1) false (NumD [e] :: xs)], NumD [p, q], nat 2] (NumD [p * p + -(q * q * e)]) := by
  have hqq : q * q ≠ 0 := fun h => by rcases Rat.mul_eq_zero.1 h with h | h <;> exact hq h
  have c1 := rtimes1 (G := G) hG (n := n + 1) (xs := NumD [e] :: xs) hp hp sp sp (by omega)
  have c2 := rtimes1 (G := G) hG (n := n + 1) (xs := NumD [e] :: xs) hq hq sq sq (by omega)
  have c3 := rtimes1 (G := G) hG (n := n + 1) (xs := NumD [e] :: xs) hqq he ((sq.mul sq).mono (show k + k ≤ 2 * k by omega)) (se.mono (show k ≤ 2 * k by omega)) (by omega)
  have s3 := (sq.mul sq).mul se
  have c4 := rless1 (G := G) hG s3 (by omega)
  have c5 := rplus1 (G := G) hG (k := 3 * k) ((sp.mul sp).mono (by omega)) (s3.neg.mono (by omega)) (by omega)
  have n1 : ((0:Int) ≤ (0:Int) ∧ (0:Int) < ((n + 1 : Nat) : Int)) ∧ (0 : Int).toNat * 1 < (NumD [e] :: xs).length := ⟨⟨by omega, by omega⟩, by show 0 < _; simp⟩
  exact Spec.of_run hG Tryz.func122 (ro := [3]) (m := 60)
    [.call (rwide2 hG p q), .call (rpow2 hG), .call c1, .call c2, .eq 39 (Eq.refl (int 0)), .prop n1, .call c3, .call c4, .call c5] (by kernel_rfl)
theorem rsign2 (hG : Steady G) {e p q : Rat} {xs : List D} {n k : Nat} (sp : SzQ k p) (sq : SzQ k q) (se : SzQ k e) (hk : 8 * k ≤ KB) :
    Spec Tryz.prog G 54 [.agg [.row (n + 1) false (NumD [e] :: xs)], NumD [p, q]] (int (rsg e p q)) := by
  unfold rsg
  by_cases hq : q = 0
  · rw [if_pos hq]
    subst hq
    by_cases hp : p = 0
    · subst hp
      exact Spec.of_run hG Tryz.func54 (ro := [2]) (m := 60) [.call (rshort2z hG)] (by kernel_rfl)
    · exact Spec.of_run hG Tryz.func54 (ro := [2]) (m := 60) [.call (rshort2p hG hp), .call (RFSign_spec hG sp.isQ (by omega))] (by kernel_rfl)
  · rw [if_neg hq]
    have c1 := rsign1 (G := G) hG (n := n + 1) (xs := NumD [e] :: xs) sp (by omega)
    have c2 := rsign1 (G := G) hG (n := n + 1) (xs := NumD [e] :: xs) sq (by omega)
    have c3 := rsign1 (G := G) hG (n := n + 1) (xs := NumD [e] :: xs) se (by omega)
    have n1 : ((0:Int) ≤ (0:Int) ∧ (0:Int) < ((n + 1 : Nat) : Int)) ∧ (0 : Int).toNat * 1 < (NumD [e] :: xs).length := ⟨⟨by omega, by omega⟩, by show 0 < _; simp⟩
    have ey : IntKind.wrap .i64 (sgn q * sgn e) = sgn q * sgn e := wrap1 (mul_abs (sgn_abs q) (sgn_abs e))
    generalize hY : sgn q * sgn e = Y at *
    by_cases h1 : sgn p = Y
    · rw [if_pos (.inl h1)]
      exact Spec.of_run hG Tryz.func54 (ro := [2]) (m := 60)
        [.call (rshort2 hG (p := p) hq), .call (rpow2 hG), .eq 32 (Eq.refl (int 0)), .prop n1, .call c1, .call c2, .call c3, .eq 50 (eqS ((congrArg (IntKind.wrap .i64) hY).trans ey)), .eq 53 (eqB (beqI h1))] (by kernel_rfl)
    · by_cases h2 : Y = 0
      · rw [if_pos (.inr h2)]
        exact Spec.of_run hG Tryz.func54 (ro := [2]) (m := 60)
          [.call (rshort2 hG (p := p) hq), .call (rpow2 hG), .eq 32 (Eq.refl (int 0)), .prop n1, .call c1, .call c2, .call c3, .eq 50 (eqS ((congrArg (IntKind.wrap .i64) hY).trans ey)), .eq 53 (eqB (bneI h1)), .eq 56 (eqB (beqI h2))] (by kernel_rfl)
      · rw [if_neg (by rintro (h | h); exact h1 h; exact h2 h)]
        by_cases h3 : sgn p = 0
        · rw [if_pos h3]
          exact Spec.of_run hG Tryz.func54 (ro := [2]) (m := 60)
            [.call (rshort2 hG (p := p) hq), .call (rpow2 hG), .eq 32 (Eq.refl (int 0)), .prop n1, .call c1, .call c2, .call c3, .eq 50 (eqS ((congrArg (IntKind.wrap .i64) hY).trans ey)), .eq 53 (eqB (bneI h1)), .eq 56 (eqB (bneI h2)), .eq 60 (eqB (beqI h3))] (by kernel_rfl)
        · rw [if_neg h3]
          have he : e ≠ 0 := fun h => h2 (by rw [← hY, h]; exact Int.mul_zero _)
          have hp : p ≠ 0 := fun h => h3 (by rw [h]; rfl)
          have c4 := rnorm (G := G) hG (xs := xs) (n := n) hp hq he sp sq se (by omega)
          have c5 := rsign1 (G := G) hG (n := n + 1) (xs := NumD [e] :: xs) ((sp.mul sp).add ((sq.mul sq).mul se).neg) (by have := sp.2.2; omega)
          exact Spec.of_run hG Tryz.func54 (ro := [2]) (m := 60)
            [.call (rshort2 hG (p := p) hq), .call (rpow2 hG), .eq 32 (Eq.refl (int 0)), .prop n1, .call c1, .call c2, .call c3, .eq 50 (eqS ((congrArg (IntKind.wrap .i64) hY).trans ey)), .eq 53 (eqB (bneI h1)), .eq 56 (eqB (bneI h2)), .eq 60 (eqB (bneI h3)),
             .call c4, .call c5, .eq 69 (eqS (wrap1 (mul_abs (sgn_abs p) (sgn_abs (p * p + -(q * q * e))))))] (by kernel_rfl)
/-! ### Long fractions -/
def Raw.digs' (r : Raw) : Prop := Dig r.n ∧ Dig r.d
theorem raw_len (r : Raw) : r.cells.length = 3 := rfl
def r0 : Raw := ⟨false, [], []⟩
theorem fld_at {l : List Raw} {i : Nat} (hi : i < l.length) : ((((l.flatMap Raw.cells).drop ((Int.ofNat i).toNat * 3)).drop 1).headD .any = rowW (l.getD i r0).n) ∧ ((((l.flatMap Raw.cells).drop ((Int.ofNat i).toNat * 3)).drop 2).headD .any = rowW (l.getD i r0).d) := by
  have e : (Int.ofNat i).toNat = i := rfl
  rw [e, flat_drop raw_len, List.drop_eq_getElem_cons hi, List.flatMap_cons, List.getD_eq_getElem?_getD, List.getElem?_eq_getElem hi]
  exact ⟨rfl, rfl⟩
theorem fld_need {l : List Raw} {i : Nat} (hi : i < l.length) (k : Nat) (hk : k < 3) : 0 < 1 ∧ 1 ≤ (((l.flatMap Raw.cells).drop ((Int.ofNat i).toNat * 3)).drop k).length := by
  have e : (Int.ofNat i).toNat = i := rfl
  rw [e, List.length_drop, List.length_drop, flat_len raw_len]
  have : (i + 1) * 3 ≤ l.length * 3 := Nat.mul_le_mul_right _ hi
  omega
def Raw.long (r : Raw) : Prop := 2 < r.n.length + r.d.length
instance (r : Raw) : Decidable (Raw.long r) := by unfold Raw.long; infer_instance
theorem sum_len {m n : Nat} (h : m ≤ 1048576) (h' : n ≤ 1048576) : IntKind.wrap .i64 (Int.ofNat m + Int.ofNat n) = Int.ofNat (m + n) := by
  have e : Int.ofNat m + Int.ofNat n = Int.ofNat (m + n) := rfl
  rw [e, wrapS (by simp only [Int.ofNat_eq_natCast]; omega) (by simp only [Int.ofNat_eq_natCast]; omega)]
def loInv (l : List Raw) (i : Nat) : St := lay 24 [(0, rawD l), (3, nat i)] []
theorem lo_round (hG : Steady G) {l : List Raw} {i : Nat} (hi : i < l.length) (hb : l.length ≤ 1048576) (hs : ∀ r ∈ l, r.n.length ≤ 1048576 ∧ r.d.length ≤ 1048576) :
    (¬ Raw.long (l.getD i r0) → Goes Tryz.prog G 0 (loopOf Tryz.f19 0) (loInv l i) .normal (loInv l (i + 1))) ∧
    (Raw.long (l.getD i r0) → Goes Tryz.prog G 0 (loopOf Tryz.f19 0) (loInv l i) .ret (lay 24 [(2, bool true)] [])) := by
  obtain ⟨e1, e2⟩ := fld_at hi
  obtain ⟨s1, s2⟩ := hs _ (getD_mem hi r0)
  unfold Raw.long
  generalize l.getD i r0 = r at *
  have es := sum_len s1 s2
  refine ⟨fun h => ?_, fun h => ?_⟩
  · have g : decide (Int.ofNat (r.n.length + r.d.length) > 2) = false := by rw [decide_eq_false_iff_not]; simp only [Int.ofNat_eq_natCast]; omega
    exact Goes.of_run hG (ro := []) (m := 60) (lay_len ..)
      [.eq 7 (eqB (lt_true hi)), .prop (atS_need raw_len (by omega) hi), .prop (fld_need hi 1 (by omega)), .eq 14 e1, .eq 16 (Eq.refl (rawD l)), .prop (atS_need raw_len (by omega) hi), .prop (fld_need hi 2 (by omega)), .eq 20 e2, .eq 22 (eqS es), .eq 23 (eqB g), .eq 9 (eqS (nat_succ' hi (by omega)))] (by kernel_rfl)
  · have g : decide (Int.ofNat (r.n.length + r.d.length) > 2) = true := by rw [decide_eq_true_iff]; simp only [Int.ofNat_eq_natCast]; omega
    exact Goes.of_run hG (ro := []) (m := 60) (lay_len ..)
      [.eq 7 (eqB (lt_true hi)), .prop (atS_need raw_len (by omega) hi), .prop (fld_need hi 1 (by omega)), .eq 14 e1, .eq 16 (Eq.refl (rawD l)), .prop (atS_need raw_len (by omega) hi), .prop (fld_need hi 2 (by omega)), .eq 20 e2, .eq 22 (eqS es), .eq 23 (eqB g)] (by kernel_rfl)
theorem long_spec (hG : Steady G) {l : List Raw} (hb : l.length ≤ 1048576) (hs : ∀ r ∈ l, r.n.length ≤ 1048576 ∧ r.d.length ≤ 1048576) :
    Spec Tryz.prog G 19 [rawD l] (bool (decide (∃ r ∈ l, Raw.long r))) := by
  rcases all_or_first (fun r : Raw => ¬ Raw.long r) r0 l with h | ⟨i, h1, h2, h3⟩
  · rw [decide_eq_false (by rintro ⟨r, h1, h2⟩; exact h r h1 h2)]
    have lp := Abs.count (P := Tryz.prog) (Good := G) (gb := 0) (body := loopOf Tryz.f19 0) (e := .exit 0) (s' := loInv l l.length) (fun i => loInv l i) l.length (fun i => lay_len ..) (by intro h; cases h)
      (fun i hi => (lo_round hG hi hb hs).1 (h _ (getD_mem hi _))) (Goes.of_run hG (ro := []) (m := 60) (lay_len ..) [.eq 7 (eqB (lt_false (Nat.le_refl l.length)))] (by kernel_rfl))
    exact Spec.of_run hG Tryz.func19 (ro := []) (m := 60) [.code lp] (by kernel_rfl)
  · rw [decide_eq_true ⟨_, getD_mem h1 r0, Decidable.not_not.1 h2⟩]
    have lp := Abs.count (P := Tryz.prog) (Good := G) (gb := 0) (body := loopOf Tryz.f19 0) (e := .ret) (s' := lay 24 [(2, bool true)] []) (fun i => loInv l i) i (fun i => lay_len ..) (by intro h; cases h)
      (fun j hj => (lo_round hG (by omega) hb hs).1 (h3 j hj)) ((lo_round hG h1 hb hs).2 (Decidable.not_not.1 h2))
    exact Spec.of_run hG Tryz.func19 (ro := []) (m := 60) [.code lp] (by kernel_rfl)

/-! ### Number -/
def rnInv (N : Nat) (l : List Raw) (i : Nat) : St := lay 37 [(27, .row N false (l.flatMap Raw.cells)), (28, nat N), (29, nat i)] []
theorem rn_round (hG : Steady G) {l : List Raw} {N i : Nat} (hN : l.length = N) (hi : i < N) (hb : N ≤ 1048576) (hs : ∀ r ∈ l, r.ok 2) :
    ((l.getD i r0).valid = true → Goes Tryz.prog G 0 (loopOf Tryz.f53 0) (rnInv N l i) .normal (rnInv N l (i + 1))) ∧
    ((l.getD i r0).valid = false → Goes Tryz.prog G 0 (loopOf Tryz.f53 0) (rnInv N l i) .ret (lay 37 [(4, int 2)] [])) := by
  subst hN
  have e := aggS raw_len hi r0
  have c := RFValid_spec (G := G) hG (hs _ (getD_mem hi r0)) (by rw [KB_eq]; omega)
  refine ⟨fun h => ?_, fun h => ?_⟩
  · rw [h] at c
    exact Goes.of_run hG (ro := []) (m := 60) (lay_len ..)
      [.eq 30 (eqB (lt_true hi)), .prop (atS_need raw_len (by omega) hi), .prop (loadS_need raw_len (by omega) hi), .eq 32 e, .call c, .eq 36 (eqS (nat_succ' hi (by omega)))] (by kernel_rfl)
  · rw [h] at c
    exact Goes.of_run hG (ro := []) (m := 60) (lay_len ..)
      [.eq 30 (eqB (lt_true hi)), .prop (atS_need raw_len (by omega) hi), .prop (loadS_need raw_len (by omega) hi), .eq 32 e, .call c] (by kernel_rfl)
/-- The loop: all are valid, or one is not. -/
theorem rn_loop (hG : Steady G) {l : List Raw} {N : Nat} (hN : l.length = N) (hb : N ≤ 1048576) (hs : ∀ r ∈ l, r.ok 2) :
    ((∀ r ∈ l, r.valid = true) ∧ Abs Tryz.prog G 37 0 (.loop (loopOf Tryz.f53 0)) (rnInv N l 0) (.exit 0) (rnInv N l N)) ∨
    Abs Tryz.prog G 37 0 (.loop (loopOf Tryz.f53 0)) (rnInv N l 0) .ret (lay 37 [(4, int 2)] []) := by
  rcases all_or_first (fun r : Raw => r.valid = true) r0 l with h | ⟨i, h1, h2, h3⟩
  · exact .inl ⟨h, Abs.count (fun i => rnInv N l i) N (fun i => lay_len ..) (by intro h; cases h)
      (fun i hi => (rn_round hG hN hi hb hs).1 (h _ (getD_mem (by omega) _))) (Goes.of_run hG (ro := []) (m := 60) (lay_len ..) [.eq 30 (eqB (lt_false (Nat.le_refl N)))] (by kernel_rfl))⟩
  · exact .inr (Abs.count (fun i => rnInv N l i) i (fun i => lay_len ..) (by intro h; cases h)
      (fun j hj => (rn_round hG hN (by omega) hb hs).1 (h3 j hj)) ((rn_round hG hN (by omega) hb hs).2 (by simpa using h2)))
theorem rawN {l : List Raw} {N : Nat} (h : l.length = N) : rawD l = .row N false (l.flatMap Raw.cells) := by subst h; rfl
theorem Number_ex (hG : Steady G) {l : List Raw} {k : Nat} (hk : k ≤ 2) (hl : l.length ≤ 4) (hs : ∀ r ∈ l, r.ok 2) :
    ∃ e : Int, Spec Tryz.prog G 53 [nat k, rawD l] (int e) ∧ (e = 0 → (∀ r ∈ l, r.valid = true) ∧ (l.length = 0 ∨ ∃ j, j ≤ k ∧ l.length = 2 ^ j)) := by
  have good : ∀ (N j : Nat), l.length = N → 0 < N → N ≤ 4 → N = 2 ^ j → j ≤ k → Spec Tryz.prog G 120 [nat N] (.tup [nat j, bool true]) →
      ∃ e : Int, Spec Tryz.prog G 53 [nat k, rawD l] (int e) ∧ (e = 0 → (∀ r ∈ l, r.valid = true) ∧ (l.length = 0 ∨ ∃ j, j ≤ k ∧ l.length = 2 ^ j)) := by
    intro N j hN h0 h4 hp hj pw
    rw [rawN hN]
    have g1 : (Int.ofNat N != 0) = true := by rw [bne_iff_ne]; simp only [Int.ofNat_eq_natCast]; omega
    have g2 : decide (Int.ofNat j > Int.ofNat k) = false := by rw [decide_eq_false_iff_not]; simp only [Int.ofNat_eq_natCast]; omega
    rcases rn_loop (G := G) hG hN (by omega) hs with ⟨hv, lp⟩ | lp
    · exact ⟨0, Spec.of_run hG Tryz.func53 (ro := []) (m := 60) [.call pw, .eq 17 (eqB g1), .eq 24 (eqB g2), .code lp] (by kernel_rfl), fun _ => ⟨hv, .inr ⟨j, hj, by omega⟩⟩⟩
    · exact ⟨2, Spec.of_run hG Tryz.func53 (ro := []) (m := 60) [.call pw, .eq 17 (eqB g1), .eq 24 (eqB g2), .code lp] (by kernel_rfl), fun h => by cases h⟩
  have bad : ∀ (N j : Nat), l.length = N → 0 < N → N ≤ 4 → k < j → Spec Tryz.prog G 120 [nat N] (.tup [nat j, bool true]) →
      ∃ e : Int, Spec Tryz.prog G 53 [nat k, rawD l] (int e) ∧ (e = 0 → (∀ r ∈ l, r.valid = true) ∧ (l.length = 0 ∨ ∃ j, j ≤ k ∧ l.length = 2 ^ j)) := by
    intro N j hN h0 h4 hj pw
    rw [rawN hN]
    have g1 : (Int.ofNat N != 0) = true := by rw [bne_iff_ne]; simp only [Int.ofNat_eq_natCast]; omega
    have g2 : decide (Int.ofNat j > Int.ofNat k) = true := by rw [decide_eq_true_iff]; simp only [Int.ofNat_eq_natCast]; omega
    exact ⟨10, Spec.of_run hG Tryz.func53 (ro := []) (m := 60) [.call pw, .eq 17 (eqB g1), .eq 24 (eqB g2)] (by kernel_rfl), fun h => by cases h⟩
  have : l.length = 0 ∨ l.length = 1 ∨ l.length = 2 ∨ l.length = 3 ∨ l.length = 4 := by omega
  rcases this with h | h | h | h | h
  · rw [rawN h]
    have : l = [] := List.eq_nil_of_length_eq_zero h
    subst this
    exact ⟨0, Spec.of_run hG Tryz.func53 (ro := []) (m := 60) [.call (rpow0 hG)] (by kernel_rfl), fun _ => ⟨(fun r hr => by cases hr), .inl rfl⟩⟩
  · exact good 1 0 h (by omega) (by omega) rfl (by omega) (rpow1 hG)
  · rcases Nat.lt_or_ge k 1 with h1 | h1
    · exact bad 2 1 h (by omega) (by omega) h1 (rpow2 hG)
    · exact good 2 1 h (by omega) (by omega) rfl h1 (rpow2 hG)
  · rw [rawN h]
    exact ⟨10, Spec.of_run hG Tryz.func53 (ro := []) (m := 60) [.call (rpow3 hG)] (by kernel_rfl), fun h => by cases h⟩
  · rcases Nat.lt_or_ge k 2 with h1 | h1
    · exact bad 4 2 h (by omega) (by omega) h1 (rpow4 hG)
    · exact good 4 2 h (by omega) (by omega) rfl h1 (rpow4 hG)
end Tw
end Lw
