/- Accepted towers and numbers; the operations that the program offers on numbers of towers, run. Condition: the numbers are of bounded size. -/
import Derived.Test.YtmcpfihkambgnaaGreatLwNi
namespace Lw
namespace Fld
open Rng OFd
/-- An accepted tower. -/
structure TowOk (t : Tow) : Prop where
  len : t.length ≤ 5
  sh : ShT t.length t
  nn : ∀ k, k < t.length → 0 ≤ signL (t.take k) k (t.getD k [])
theorem take_getD (t : Tow) (k j : Nat) (h : j < k) : (t.take k).getD j [] = t.getD j [] := by
  simp only [List.getD_eq_getElem?_getD, List.getElem?_take, if_pos h]
theorem take_getD' (t : Tow) (k j : Nat) : (t.take k).getD j [] = t.getD j [] ∨ (t.take k).getD j [] = [] := by
  simp only [List.getD_eq_getElem?_getD, List.getElem?_take]
  split
  · exact .inl rfl
  · exact .inr rfl
theorem BtT.take {δ : Nat} {t : Tow} (h : BtT δ t) (k : Nat) : BtT δ (t.take k) := by
  obtain ⟨Δ, Β, h1, h2, h3, h4⟩ := h
  refine ⟨Δ, Β, h1, h2, h3, fun j => ?_⟩
  rcases take_getD' t k j with e | e
  · rw [e]; exact h4 j
  · rw [e]; exact .nil _ _
theorem ShT.take {n : Nat} {t : Tow} (h : ShT n t) (k : Nat) (hk : k ≤ n) : ShT k (t.take k) := fun j hj => by
  rw [take_getD t k j hj]; exact h j (by omega)
theorem Model.take {K : Type} [OFd K] {ι : Hom Rat K} {s : Nat → K} {t : Tow} {n k : Nat} (h : Model ι s t n) (hk : k ≤ n) : Model ι s (t.take k) k :=
  ⟨fun j hj => h.nn j (by omega), fun j hj => by rw [take_getD t k j hj]; exact h.sq j (by omega)⟩
theorem Model.le {K : Type} [OFd K] {ι : Hom Rat K} {s : Nat → K} {t : Tow} {n k : Nat} (h : Model ι s t n) (hk : k ≤ n) : Model ι s t k :=
  ⟨fun j hj => h.nn j (by omega), fun j hj => h.sq j (by omega)⟩
theorem TowOk.nil : TowOk [] := ⟨by simp, fun j hj => by simp at hj, fun k hk => by simp at hk⟩
/-- An accepted tower with a model, and a list that is not below 0: a model with one root more, which extends the former. -/
theorem Model.extend {K : Type} [OFd K] {ι : Hom Rat K} {s : Nat → K} {t : Tow} {n : Nat} (hM : Model ι s t n) (d : List Rat) (hd : OFd.nn (lv ι s n d)) :
    ∃ (K' : Type) (_ : OFd K') (f : Hom K K') (r : K'), OFd.nn r ∧ r * r = f.φ (lv ι s n d) ∧ Model (f.comp ι) (fun i => if i = n then r else f.φ (s i)) t n ∧
      (∀ k g, k ≤ n → lv (f.comp ι) (fun i => if i = n then r else f.φ (s i)) k g = f.φ (lv ι s k g)) := by
  obtain ⟨K', _, f, r, hr, hrr⟩ := adjoin K (lv ι s n d) hd
  have mapV : ∀ k g, k ≤ n → V (f.comp ι) (fun i => if i = n then r else f.φ (s i)) k g = f.φ (V ι s k g) := by
    intro k
    induction k with
    | zero => intro g _; rfl
    | succ k ih =>
      intro g hk
      simp only [V]
      rw [ih _ (by omega), ih _ (by omega), if_neg (by omega), f.add, f.mul]
  refine ⟨K', inferInstance, f, r, hr, hrr, ⟨fun k hk => ?_, fun k hk => ?_⟩, fun k g hk => mapV k _ hk⟩
  · simp only [if_neg (show k ≠ n by omega)]
    rcases hM.nn k hk with g | g
    · exact .inl (f.pos _ g)
    · rw [g, f.zero]; exact .inr rfl
  · simp only [if_neg (show k ≠ n by omega)]
    rw [← f.mul, hM.sq k hk]
    exact (mapV k _ (by omega)).symm
theorem TowOk.model {t : Tow} (h : TowOk t) : ∀ n, n ≤ t.length → ∃ (K : Type) (_ : OFd K) (ι : Hom Rat K) (s : Nat → K), Model ι s t n
  | 0, _ => ⟨Rat, inferInstance, Hom.id Rat, fun _ => 0, ⟨fun k h => absurd h (by omega), fun k h => absurd h (by omega)⟩⟩
  | n + 1, hn => by
    obtain ⟨K, _, ι, s, hM⟩ := h.model n (by omega)
    have hd : Sh n (t.getD n []) := .of (h.sh n (by omega))
    have hs := h.nn n (by omega)
    rw [signL_ok ι s n _ (h.sh.take n (by omega)) (hM.take (Nat.le_refl n)) hd, sg_nn] at hs
    obtain ⟨K', _, f, r, hr, hrr, hM', hv⟩ := hM.extend _ hs
    refine ⟨K', inferInstance, f.comp ι, fun i => if i = n then r else f.φ (s i), ⟨fun k hk => ?_, fun k hk => ?_⟩⟩
    · by_cases e : k = n
      · simp only [e, if_true]; exact hr
      · exact hM'.nn k (by omega)
    · by_cases e : k = n
      · subst e
        simp only [if_true]
        rw [hrr]
        exact (hv k _ (Nat.le_refl _)).symm
      · exact hM'.sq k (by omega)
end Fld
namespace Tw
open Go Go.RowKit Go.Proofs Fld
variable {G : World → Prop}

/-! ### Check -/
def chInv (t : Tow) (i : Nat) : St := lay 43 [(1, .rptr [.row t.length false (t.map NumD)]), (13, .row t.length false (t.map NumD)), (14, nat t.length), (15, nat i)] []
theorem tow_take {t : Tow} {i : Nat} (h : i ≤ t.length) : D.row ((Int.ofNat i).toNat - (0 : Int).toNat) false (((t.map NumD).drop ((0 : Int).toNat * 1)).take (((Int.ofNat i).toNat - (0 : Int).toNat) * 1)) = .row (t.take i).length false ((t.take i).map NumD) := by
  have e1 : (Int.ofNat i).toNat = i := rfl
  have e2 : (0 : Int).toNat = 0 := rfl
  rw [e1, e2, Nat.zero_mul, Nat.sub_zero, Nat.mul_one, List.drop_zero, List.map_take, List.length_take, Nat.min_eq_left h]
theorem shl_pow {i : Nat} (h : i ≤ 5) : IntKind.wrap .i64 ((1 : Int) * 2 ^ min (Int.ofNat i).toNat (IntKind.bits .i64)) = Int.ofNat (2 ^ i) := by
  have : i = 0 ∨ i = 1 ∨ i = 2 ∨ i = 3 ∨ i = 4 ∨ i = 5 := by omega
  rcases this with rfl | rfl | rfl | rfl | rfl | rfl <;> decide
theorem ch_round (hG : Steady G) {t : Tow} {i δ : Nat} (ok : TowOk t) (hT : BtT δ t) (hN : sb δ t.length δ ≤ NB) (hi : i < t.length) :
    Goes Tryz.prog G 0 (loopOf Tryz.f50 0) (chInv t i) .normal (chInv t (i + 1)) := by
  have h5 := ok.len
  have hl := ok.sh i hi
  have b := hT.root i
  have n0 : δ ≤ NB := Nat.le_trans (sb_ge δ t.length δ) hN
  have e29 := tow_take (t := t) (i := i) (by omega)
  have hlt : (t.take i).length = i := by rw [List.length_take]; omega
  have c1 := number_spec (G := G) hG (t := t.take i) (a := t.getD i []) (by rw [hlt]; exact .of hl) (by omega) (b.fit n0)
  have sbm : ∀ m, i ≤ m → sb δ i δ ≤ sb δ m δ := by
    intro m hm
    obtain ⟨d, rfl⟩ : ∃ d, m = i + d := ⟨m - i, by omega⟩
    clear hm
    induction d with
    | zero => exact Nat.le_refl _
    | succ d ih => exact Nat.le_trans ih (sb_up δ _ δ)
  have c2 := sign_spec (G := G) hG (hT.take i) i (t.getD i []) δ (by omega) (by omega) (ok.sh.take i (by omega)) (.of hl) b (Nat.le_trans (sbm t.length (by omega)) hN)
  have nn := ok.nn i hi
  generalize signL (t.take i) i (t.getD i []) = Z at c2 nn
  have eZ : decide (Z < 0) = false := by rw [decide_eq_false_iff_not]; omega
  have e19 := row_at hi
  generalize t.getD i [] = d at *
  rw [numN_eq hl] at e19 c1 c2
  exact Goes.of_run hG (ro := []) (m := 60) (lay_len ..)
    [.eq 16 (eqB (lt_true hi)), .prop (row_need hi), .prop (row_load hi), .eq 19 e19, .eq 23 (eqS (shl_pow (i := i) (by omega))), .eq 24 (eqB (x := (Int.ofNat (2 ^ i) != Int.ofNat (2 ^ i))) (y := false) (by simp)),
     .eq 28 (Eq.refl (nat i)), .prop (sl_need0 (u := i) (N := t.length) (by omega)), .eq 29 e29, .call c1, .call c2, .eq 40 (eqB eZ), .eq 42 (eqS (nat_succ' hi (by omega)))] (by kernel_rfl)
theorem Check_spec (hG : Steady G) {t : Tow} {δ : Nat} (ok : TowOk t) (hT : BtT δ t) (hN : sb δ t.length δ ≤ NB) : Spec Tryz.prog G 50 [TowD t] (.lit .nilIface) := by
  have h5 := ok.len
  have lp := Abs.count (P := Tryz.prog) (Good := G) (gb := 0) (body := loopOf Tryz.f50 0) (e := .exit 0) (s' := chInv t t.length) (fun i => chInv t i) t.length (fun i => lay_len ..) (by intro h; cases h)
    (fun i hi => ch_round hG ok hT hN hi) (Goes.of_run hG (ro := []) (m := 60) (lay_len ..) [.eq 16 (eqB (lt_false (Nat.le_refl t.length)))] (by kernel_rfl))
  have g : decide (Int.ofNat t.length > 5) = false := by rw [decide_eq_false_iff_not]; simp only [Int.ofNat_eq_natCast]; omega
  exact Spec.of_run hG Tryz.func50 (ro := [1]) (m := 60) [.eq 10 (eqB g), .code lp] (by kernel_rfl)
/-- An accepted tower whose roots are of bounded size. -/
structure TowB (δ : Nat) (t : Tow) : Prop where
  ok : TowOk t
  bt : BtT δ t
  sz : sb δ t.length δ ≤ NB
/-- An accepted number of bounded size. -/
structure NumB (n : Nat) (t : Tow) (a : List Rat) : Prop where
  sh : Sh t.length a
  bt : Bt n a
theorem NumB.nil (n : Nat) (t : Tow) : NumB n t [] := ⟨.nil _, .nil _⟩
theorem NumB.mono {m n : Nat} {t : Tow} {a : List Rat} (h : NumB m t a) (hm : m ≤ n) : NumB n t a := ⟨h.sh, h.bt.mono hm⟩
theorem NumB.len {n : Nat} {t : Tow} {a : List Rat} (h : NumB n t a) (ok : TowOk t) : a.length ≤ 32 := len64 h.sh ok.len
theorem number_specB (hG : Steady G) {t : Tow} {δ n : Nat} {a : List Rat} (hT : TowB δ t) (ha : NumB n t a) (hn : n ≤ NB) : Spec Tryz.prog G 117 [TowD t, NumD a] (.lit .nilIface) :=
  number_spec hG ha.sh hT.ok.len (ha.bt.fit hn)
theorem checks1_spec (hG : Steady G) {t : Tow} {δ n : Nat} {a : List Rat} (hT : TowB δ t) (ha : NumB n t a) (hn : n ≤ NB) : Spec Tryz.prog G 56 [TowD t, .row 1 false [NumD a]] (.lit .nilIface) :=
  Spec.of_run hG Tryz.func56 (ro := [2]) (m := 60) [.call (Check_spec hG hT.ok hT.bt hT.sz), .call (number_specB hG hT ha hn)] (by kernel_rfl)
theorem checks2_spec (hG : Steady G) {t : Tow} {δ m n : Nat} {a b : List Rat} (hT : TowB δ t) (ha : NumB m t a) (hb : NumB n t b) (hm : m ≤ NB) (hn : n ≤ NB) : Spec Tryz.prog G 56 [TowD t, .row 2 false [NumD a, NumD b]] (.lit .nilIface) :=
  Spec.of_run hG Tryz.func56 (ro := [2]) (m := 60) [.call (Check_spec hG hT.ok hT.bt hT.sz), .call (number_specB hG hT ha hm), .call (number_specB hG hT hb hn)] (by kernel_rfl)

/-! ### The operations -/
theorem Valid_spec (hG : Steady G) {t : Tow} {δ n : Nat} {a : List Rat} (hT : TowB δ t) (ha : NumB n t a) (hn : n ≤ NB) : Spec Tryz.prog G 157 [TowD t, NumD a] (bool true) :=
  Spec.of_run hG Tryz.func157 (ro := [2]) (m := 60) [.call (checks1_spec hG hT ha hn)] (by kernel_rfl)
theorem Short_specB (hG : Steady G) {t : Tow} {n : Nat} {a : List Rat} (ok : TowOk t) (ha : NumB n t a) (hn : n ≤ NB) : Spec Tryz.prog G 118 [NumD a] (NumD (shortL a)) :=
  Short_spec hG ha.sh ok.len (ha.bt.fit hn)
theorem NumB.plus {m n : Nat} {t : Tow} {a b : List Rat} (ha : NumB m t a) (hb : NumB n t b) : NumB (m + n + 1) t (plusL a b) := ⟨ha.sh.plus hb.sh, ha.bt.plus hb.bt⟩
theorem NumB.minus {n : Nat} {t : Tow} {a : List Rat} (ha : NumB n t a) : NumB n t (minusL a) := ⟨ha.sh.minus, ha.bt.minus⟩
theorem NumB.short {n : Nat} {t : Tow} {a : List Rat} (ha : NumB n t a) : NumB n t (shortL a) := ⟨shortL_sh ha.sh, ha.bt.short ha.sh⟩
/-- What a product takes beside its factors. -/
def tb (δ k : Nat) : Nat := mkk k * δ + ck k
theorem NumB.times {m n δ : Nat} {t : Tow} {a b : List Rat} (hT : TowB δ t) (ha : NumB m t a) (hb : NumB n t b) : NumB (m + n + tb δ t.length) t (tmsL t t.length a b) :=
  ⟨(tmsL_sh _ _ _ hT.ok.sh ha.sh hb.sh).1, (ha.bt.times hT.bt hb.bt t.length).mono (by unfold tb; omega)⟩
theorem NumB.inv {n δ : Nat} {t : Tow} {a : List Rat} (hT : TowB δ t) (ha : NumB n t a) (h0 : sgnL t a ≠ 0) : NumB (ib δ t.length n) t (invL t t.length a) := by
  refine ⟨?_, Bt.inv hT.bt _ _ _ hT.ok.sh ha.sh ha.bt⟩
  obtain ⟨K, _, ι, s, hM⟩ := hT.ok.model t.length (Nat.le_refl _)
  refine (invL_ok ι s _ _ hT.ok.sh hM ha.sh fun e => h0 ?_).1
  unfold sgnL
  rw [signL_ok ι s _ _ hT.ok.sh hM ha.sh, e, OFd.sg_zero]
theorem minus_specN (hG : Steady G) {t : Tow} {n : Nat} {a : List Rat} (ok : TowOk t) (ha : NumB n t a) (hn : n ≤ NB) : Spec Tryz.prog G 64 [NumD a] (NumD (minusL a)) :=
  minus_specB hG ha.bt hn (ha.len ok)
theorem plus_specN (hG : Steady G) {t : Tow} {m n : Nat} {a b : List Rat} (ok : TowOk t) (ha : NumB m t a) (hb : NumB n t b) (hm : m ≤ NB) (hn : n ≤ NB) : Spec Tryz.prog G 119 [NumD a, NumD b] (NumD (plusL a b)) :=
  plus_specB hG ha.bt hb.bt hm hn (ha.len ok) (hb.len ok)
theorem times_specN (hG : Steady G) {t : Tow} {δ m n : Nat} {a b : List Rat} (hT : TowB δ t) (ha : NumB m t a) (hb : NumB n t b) (h : m + n + tb δ t.length ≤ NB) : Spec Tryz.prog G 59 [TowD t, NumD a, NumD b] (NumD (tmsL t t.length a b)) :=
  times_spec hG hT.bt _ _ _ _ _ hT.ok.len (Nat.le_refl _) hT.ok.sh ha.sh hb.sh ha.bt hb.bt (by unfold tb at h; omega)
theorem sign_specN (hG : Steady G) {t : Tow} {δ n : Nat} {a : List Rat} (hT : TowB δ t) (ha : NumB n t a) (h : sb δ t.length n ≤ NB) : Spec Tryz.prog G 65 [TowD t, NumD a] (int (sgnL t a)) :=
  sign_spec hG hT.bt _ _ _ hT.ok.len (Nat.le_refl _) hT.ok.sh ha.sh ha.bt h
theorem inverse_specN (hG : Steady G) {t : Tow} {δ n : Nat} {a : List Rat} (hT : TowB δ t) (ha : NumB n t a) (h0 : sgnL t a ≠ 0) (h : sb δ t.length n ≤ NB) (h' : ib δ t.length n ≤ NB) :
    Spec Tryz.prog G 319 [TowD t, NumD a] (NumD (invL t t.length a)) := by
  obtain ⟨K, _, ι, s, hM⟩ := hT.ok.model t.length (Nat.le_refl _)
  refine inverse_spec ι s hG hT.bt _ _ _ hT.ok.len (Nat.le_refl _) hT.ok.sh hM ha.sh ha.bt (fun e => h0 ?_) h h'
  unfold sgnL
  rw [signL_ok ι s _ _ hT.ok.sh hM ha.sh, e, OFd.sg_zero]
theorem Sign_spec (hG : Steady G) {t : Tow} {δ n : Nat} {a : List Rat} (hT : TowB δ t) (ha : NumB n t a) (h : sb δ t.length n ≤ NB) : Spec Tryz.prog G 23 [TowD t, NumD a] (.tup [int (sgnL t a), .lit .nilIface]) :=
  Spec.of_run hG Tryz.func23 (ro := [2]) (m := 60) [.call (checks1_spec hG hT ha (Nat.le_trans (sb_ge _ _ _) h)), .call (sign_specN hG hT ha h)] (by kernel_rfl)
theorem Neg_spec (hG : Steady G) {t : Tow} {δ n : Nat} {a : List Rat} (hT : TowB δ t) (ha : NumB n t a) (hn : n ≤ NB) : Spec Tryz.prog G 51 [TowD t, NumD a] (.tup [NumD (negL a), .lit .nilIface]) :=
  Spec.of_run hG Tryz.func51 (ro := [2]) (m := 60) [.call (checks1_spec hG hT ha hn), .call (minus_specN hG hT.ok ha hn), .call (Short_specB hG hT.ok ha.minus hn)] (by kernel_rfl)
theorem Add_spec (hG : Steady G) {t : Tow} {δ m n : Nat} {a b : List Rat} (hT : TowB δ t) (ha : NumB m t a) (hb : NumB n t b) (h : m + n + 1 ≤ NB) : Spec Tryz.prog G 316 [TowD t, NumD a, NumD b] (.tup [NumD (addL a b), .lit .nilIface]) :=
  Spec.of_run hG Tryz.func316 (ro := [3]) (m := 60) [.call (checks2_spec hG hT ha hb (by omega) (by omega)), .call (plus_specN hG hT.ok ha hb (by omega) (by omega)), .call (Short_specB hG hT.ok (ha.plus hb) h)] (by kernel_rfl)
theorem Sub_spec (hG : Steady G) {t : Tow} {δ m n : Nat} {a b : List Rat} (hT : TowB δ t) (ha : NumB m t a) (hb : NumB n t b) (h : m + n + 1 ≤ NB) : Spec Tryz.prog G 312 [TowD t, NumD a, NumD b] (.tup [NumD (subL a b), .lit .nilIface]) :=
  Spec.of_run hG Tryz.func312 (ro := [3]) (m := 60) [.call (checks2_spec hG hT ha hb (by omega) (by omega)), .call (minus_specN hG hT.ok hb (by omega)), .call (plus_specN hG hT.ok ha hb.minus (by omega) (by omega)), .call (Short_specB hG hT.ok (ha.plus hb.minus) h)] (by kernel_rfl)
theorem Mul_spec (hG : Steady G) {t : Tow} {δ m n : Nat} {a b : List Rat} (hT : TowB δ t) (ha : NumB m t a) (hb : NumB n t b) (h : m + n + tb δ t.length ≤ NB) : Spec Tryz.prog G 317 [TowD t, NumD a, NumD b] (.tup [NumD (mulL t a b), .lit .nilIface]) :=
  Spec.of_run hG Tryz.func317 (ro := [3]) (m := 60) [.call (checks2_spec hG hT ha hb (by omega) (by omega)), .call (times_specN hG hT ha hb h), .call (Short_specB hG hT.ok (ha.times hT hb) h)] (by kernel_rfl)
theorem Div_spec (hG : Steady G) {t : Tow} {δ m n : Nat} {a b : List Rat} (hT : TowB δ t) (ha : NumB m t a) (hb : NumB n t b) (h0 : sgnL t b ≠ 0) (h1 : sb δ t.length n ≤ NB) (h : m + ib δ t.length n + tb δ t.length ≤ NB) :
    Spec Tryz.prog G 284 [TowD t, NumD a, NumD b] (.tup [NumD (divL t a b), .lit .nilIface]) := by
  have hi := hb.inv hT h0
  have s1 := ib_ge δ t.length n
  exact Spec.of_run hG Tryz.func284 (ro := [3]) (m := 60) [.call (checks2_spec hG hT ha hb (by omega) (by omega)), .call (sign_specN hG hT hb h1), .eq 20 (eqB (bneI h0)), .call (inverse_specN hG hT hb h0 h1 (by omega)), .call (times_specN hG hT ha hi h), .call (Short_specB hG hT.ok (ha.times hT hi) h)] (by kernel_rfl)
theorem Cmp_spec (hG : Steady G) {t : Tow} {δ m n : Nat} {a b : List Rat} (hT : TowB δ t) (ha : NumB m t a) (hb : NumB n t b) (h : sb δ t.length (m + n + 1) ≤ NB) : Spec Tryz.prog G 52 [TowD t, NumD a, NumD b] (.tup [int (sgnL t (plusL a (minusL b))), .lit .nilIface]) := by
  have s1 := sb_ge δ t.length (m + n + 1)
  exact Spec.of_run hG Tryz.func52 (ro := [3]) (m := 60) [.call (checks2_spec hG hT ha hb (by omega) (by omega)), .call (minus_specN hG hT.ok hb (by omega)), .call (plus_specN hG hT.ok ha hb.minus (by omega) (by omega)), .call (sign_specN hG hT (ha.plus hb.minus) h)] (by kernel_rfl)
theorem Of_specT (hG : Steady G) {q : Rat} (h : SzQ KB q) : Spec Tryz.prog G 86 [F q] (NumD (ofL q)) := by
  have c := FAdd0 (G := G) hG h.isQ (Nat.le_refl _)
  have s := Short_spec (G := G) hG (a := [q]) (k := 0) (.of rfl) (by omega) (fun x hx => by rw [List.mem_singleton] at hx; rw [hx]; exact h)
  exact Spec.of_run hG Tryz.func86 (ro := [1]) (m := 60) [.call c, .call s] (by kernel_rfl)
end Tw
end Lw
