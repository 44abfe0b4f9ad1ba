/- The statement about enclosures and signs of numbers, run; that the fixed four-bar is assembled is asked for. Condition: the lists are shorter than 1048577. -/
import Derived.Test.YtmcpfihkambgnaaGreatLwNm
namespace Lw
namespace Tw
open Go Go.RowKit Go.Proofs Fld
variable {G : World → Prop}

theorem TWidth_spec (hG : Steady G) {k : Nat} {x : D} {a b : Rat} (hx : IsI k x a b) (hk : k ≤ KB) : Spec Tryz.prog G 26 [x] (F (b - a)) := by
  have c := clean_spec hG hx hk
  have n1 := FSub_spec hG hx.szL.2.isQ hx.szL.1.isQ hk hk
  obtain ⟨r, rfl, -, -, -⟩ := hx
  exact Spec.of_run hG Tryz.func26 (ro := []) (m := 40) [.call c, .call n1] (by kernel_rfl)
def sgnIT (a b : Rat) : Int := if Lw.sgn a = Lw.sgn b then Lw.sgn a else 0
def hasIT (a b : Rat) : Bool := decide (Lw.sgn a = Lw.sgn b)
theorem TSign_spec (hG : Steady G) {k : Nat} {x : D} {a b : Rat} (hx : IsI k x a b) (hk : k ≤ KB) : Spec Tryz.prog G 27 [x] (.tup [int (sgnIT a b), bool (hasIT a b)]) := by
  have c := clean_spec hG hx hk
  have n1 := FSign_spec hG hx.szL.1.isQ hk
  have n2 := FSign_spec hG hx.szL.2.isQ hk
  obtain ⟨r, rfl, -, -, -⟩ := hx
  unfold sgnIT hasIT
  by_cases h : Lw.sgn a = Lw.sgn b
  · rw [if_pos h, decide_eq_true h]
    exact Spec.of_run hG Tryz.func27 (ro := []) (m := 40) [.call c, .call n1, .call n2, .eq 16 (eqB (x := (Lw.sgn a == Lw.sgn b)) (y := true) (beq_iff_eq.2 h))] (by kernel_rfl)
  · rw [if_neg h, decide_eq_false h]
    exact Spec.of_run hG Tryz.func27 (ro := []) (m := 40) [.call c, .call n1, .call n2, .eq 16 (eqB (x := (Lw.sgn a == Lw.sgn b)) (y := false) (beq_eq_false_iff_ne.2 h))] (by kernel_rfl)

/-! ### What the numbers say -/
theorem divInt_mul {m d : Int} (hd : 0 < d) : Rat.divInt m d * (d : Rat) = (m : Rat) := by
  have d0 : (d : Rat) ≠ 0 := fun h => by have := Rat.intCast_eq_zero_iff.1 h; omega
  rw [Rat.divInt_eq_div]
  exact Rat.div_mul_cancel d0
theorem sgn_divInt {m d : Int} (hd : 0 < d) : Lw.sgn (Rat.divInt m d) = m.sign := by
  have e := divInt_mul (m := m) hd
  have dp : (0 : Rat) < (d : Rat) := Rat.intCast_pos.2 hd
  generalize Rat.divInt m d = q at *
  rcases sgn_cases q with ⟨h, e2⟩ | ⟨h, e2⟩ | ⟨h, e2⟩
  · have : (0 : Rat) < -q * (d : Rat) := Rat.mul_pos (by grind) dp
    rw [Rat.neg_mul, e, ← Rat.intCast_neg] at this
    have := Rat.intCast_pos.1 this
    rw [e2, Int.sign_eq_neg_one_of_neg (by omega)]
  · rw [h, Rat.zero_mul] at e
    have := Rat.intCast_eq_zero_iff.1 e.symm
    rw [e2, this]; rfl
  · have := Rat.mul_pos h dp
    rw [e] at this
    rw [e2, Int.sign_eq_one_of_pos (Rat.intCast_pos.1 this)]
theorem divInt_sub (m n d : Int) : Rat.divInt m d - Rat.divInt n d = Rat.divInt (m - n) d := by
  rw [Rat.divInt_eq_div, Rat.divInt_eq_div, Rat.divInt_eq_div, Rat.div_def, Rat.div_def, Rat.div_def, Rat.intCast_sub]
  grind
theorem divInt_mono {m n d : Int} (hd : 0 < d) (h : m ≤ n) : Rat.divInt m d ≤ Rat.divInt n d := by
  have h1 := (Rat.divInt_nonneg_iff_of_pos_right (a := n - m) hd).2 (by omega)
  rw [← divInt_sub] at h1
  grind

/-- The roots, one after the other. -/
def wnInv (t : List (List Raw)) (a : List Raw) (i : Nat) : St := lay 108 [(1, rawD a), (2, .rptr [.row t.length false (t.map rawD)]), (4, bool false), (5, nat i)] []
theorem rrow_need {t : List (List Raw)} {j : Nat} (h : j < t.length) : ((0:Int) ≤ Int.ofNat j ∧ Int.ofNat j < (t.length : Int)) ∧ (Int.ofNat j).toNat * 1 < (t.map rawD).length := by
  have e : (Int.ofNat j).toNat = j := rfl
  rw [e, List.length_map]
  exact ⟨⟨by simp, by simpa using h⟩, by omega⟩
theorem rrow_load {t : List (List Raw)} {j : Nat} (h : j < t.length) : 0 < 1 ∧ 1 ≤ ((t.map rawD).drop ((Int.ofNat j).toNat * 1)).length := by
  have e : (Int.ofNat j).toNat = j := rfl
  rw [e, List.length_drop, List.length_map]; omega
theorem rrow_at {t : List (List Raw)} {j : Nat} (h : j < t.length) : ((t.map rawD).drop ((Int.ofNat j).toNat * 1)).headD .any = rawD (t.getD j []) := by
  have e : (Int.ofNat j).toNat = j := rfl
  rw [e, Nat.mul_one, List.drop_eq_getElem_cons (by rw [List.length_map]; exact h)]
  rw [List.headD_cons, List.getElem_map, List.getD_eq_getElem?_getD, List.getElem?_eq_getElem h]
  rfl
/-- A root that the statement speaks of. -/
def rootOk (d : List Raw) : Prop := d.length ≤ 2 ∧ ¬ ∃ r ∈ d, Raw.long r
instance (d : List Raw) : Decidable (rootOk d) := by unfold rootOk; infer_instance
structure Fits (t : List (List Raw)) (a : List Raw) : Prop where
  tl : t.length ≤ 1048576
  dl : ∀ d ∈ t, d.length ≤ 1048576 ∧ ∀ r ∈ d, (r.n.length ≤ 1048576 ∧ r.d.length ≤ 1048576) ∧ Raw.digs' r
  al : a.length ≤ 1048576
  ar : ∀ r ∈ a, (r.n.length ≤ 1048576 ∧ r.d.length ≤ 1048576) ∧ Raw.digs' r
theorem wn_round (hG : Steady G) {t : List (List Raw)} {a : List Raw} {i : Nat} (fit : Fits t a) (hi : i < t.length) :
    (rootOk (t.getD i []) → Goes Tryz.prog G 0 (loopOf Tryz.f6 0) (wnInv t a i) .normal (wnInv t a (i + 1))) ∧
    (¬ rootOk (t.getD i []) → Goes Tryz.prog G 0 (loopOf Tryz.f6 0) (wnInv t a i) .ret (lay 108 [(4, bool true)] [])) := by
  have e := rrow_at hi
  obtain ⟨d1, d2⟩ := fit.dl _ (getD_mem hi [])
  have c := long_spec (G := G) hG d1 fun r hr => (d2 r hr).1
  have tl := fit.tl
  generalize t.getD i [] = d at *
  have en : ∀ b, decide (Int.ofNat d.length > 2) = b → D.lit (.bool (decide (Int.ofNat d.length > 2))) = D.lit (.bool b) := fun b h => by rw [h]
  refine ⟨fun h => ?_, fun h => ?_⟩
  · rw [decide_eq_false h.2] at c
    have g : decide (Int.ofNat d.length > 2) = false := by rw [decide_eq_false_iff_not]; have := h.1; simp only [Int.ofNat_eq_natCast]; omega
    exact Goes.of_run hG (ro := []) (m := 60) (lay_len ..)
      [.eq 32 (eqB (lt_true hi)), .eq 37 (Eq.refl (nat i)), .prop (rrow_need hi), .prop (rrow_load hi), .eq 39 e, .eq 41 (eqB g), .eq 45 (Eq.refl (nat i)), .prop (rrow_need hi), .prop (rrow_load hi), .eq 47 e, .call c, .eq 34 (eqS (nat_succ' hi (by omega)))] (by kernel_rfl)
  · by_cases h2 : d.length ≤ 2
    · have hl : ∃ r ∈ d, Raw.long r := Decidable.not_not.1 fun h3 => h ⟨h2, h3⟩
      rw [decide_eq_true hl] at c
      have g : decide (Int.ofNat d.length > 2) = false := by rw [decide_eq_false_iff_not]; simp only [Int.ofNat_eq_natCast]; omega
      exact Goes.of_run hG (ro := []) (m := 60) (lay_len ..)
        [.eq 32 (eqB (lt_true hi)), .eq 37 (Eq.refl (nat i)), .prop (rrow_need hi), .prop (rrow_load hi), .eq 39 e, .eq 41 (eqB g), .eq 45 (Eq.refl (nat i)), .prop (rrow_need hi), .prop (rrow_load hi), .eq 47 e, .call c] (by kernel_rfl)
    · have g : decide (Int.ofNat d.length > 2) = true := by rw [decide_eq_true_iff]; simp only [Int.ofNat_eq_natCast]; omega
      exact Goes.of_run hG (ro := []) (m := 60) (lay_len ..)
        [.eq 32 (eqB (lt_true hi)), .eq 37 (Eq.refl (nat i)), .prop (rrow_need hi), .prop (rrow_load hi), .eq 39 e, .eq 41 (eqB g)] (by kernel_rfl)
theorem wn_loop (hG : Steady G) {t : List (List Raw)} {a : List Raw} (fit : Fits t a) :
    ((∀ d ∈ t, rootOk d) ∧ Abs Tryz.prog G 108 0 (.loop (loopOf Tryz.f6 0)) (wnInv t a 0) (.exit 0) (wnInv t a t.length)) ∨
    Abs Tryz.prog G 108 0 (.loop (loopOf Tryz.f6 0)) (wnInv t a 0) .ret (lay 108 [(4, bool true)] []) := by
  rcases all_or_first rootOk [] t with h | ⟨i, h1, h2, h3⟩
  · exact .inl ⟨h, Abs.count (fun i => wnInv t a i) t.length (fun i => lay_len ..) (by intro h; cases h)
      (fun i hi => (wn_round hG fit hi).1 (h _ (getD_mem hi _))) (Goes.of_run hG (ro := []) (m := 60) (lay_len ..) [.eq 32 (eqB (lt_false (Nat.le_refl t.length)))] (by kernel_rfl))⟩
  · exact .inr (Abs.count (fun i => wnInv t a i) i (fun i => lay_len ..) (by intro h; cases h)
      (fun j hj => (wn_round hG fit (by omega)).1 (h3 j hj)) ((wn_round hG fit h1).2 h2))
theorem ok2 {r : Raw} (h : ¬ Raw.long r) (hd : Raw.digs' r) : r.ok 2 := by
  unfold Raw.long at h
  exact ⟨hd.1, hd.2, by omega, by omega, by omega⟩
theorem Valid_ex (hG : Steady G) {t : List (List Raw)} {a : List Raw} (ht : t.length ≤ 2) (ha : a.length ≤ 4) (hs : ∀ r ∈ a, r.ok 2) (c : Spec Tryz.prog G 20 [rawT t] (int 0)) :
    ∃ v : Bool, Spec Tryz.prog G 21 [rawT t, rawD a] (bool v) ∧ (v = true → (∀ r ∈ a, r.valid = true) ∧ (a.length = 0 ∨ ∃ j, j ≤ t.length ∧ a.length = 2 ^ j)) := by
  obtain ⟨e, c1, h1⟩ := Number_ex (G := G) hG (l := a) ht ha hs
  by_cases he : e = 0
  · subst he
    have er : Spec Tryz.prog G 55 [rawT t, .row 1 false [rawD a]] (int 0) :=
      Spec.of_run hG Tryz.func55 (ro := [2]) (m := 60) [.call c, .call c1] (by kernel_rfl)
    exact ⟨true, Spec.of_run hG Tryz.func21 (ro := [2]) (m := 60) [.call er] (by kernel_rfl), fun _ => h1 rfl⟩
  · have eb : (e != 0) = true := by rw [bne_iff_ne]; exact he
    have er : Spec Tryz.prog G 55 [rawT t, .row 1 false [rawD a]] (int e) :=
      Spec.of_run hG Tryz.func55 (ro := [2]) (m := 60) [.call c, .call c1, .eq 26 (eqB eb)] (by kernel_rfl)
    exact ⟨false, Spec.of_run hG Tryz.func21 (ro := [2]) (m := 60) [.call er, .eq 9 (eqB (bneI he))] (by kernel_rfl), fun h => by cases h⟩
theorem BtT_cast {m n : Nat} {t u : Tow} (h : BtT m t) (e : m = n) (e' : t = u) : BtT n u := e ▸ e' ▸ h
theorem BtT_512 {t : Tow} (h : t.length ≤ 2) (hl : ∀ d ∈ t, d.length ≤ 2) (hs : ∀ d ∈ t, SzL 2 d) : BtT 512 t := by
  have one : ∀ d ∈ t, Bt 256 d := fun d hd => (Bt.of_sz (hs d hd)).mono (by have := hl d hd; omega)
  match t, h, one with
  | [], _, _ => exact BtT.nil 512
  | [d], _, one => exact BtT_cast ((BtT.nil 256).snoc (one d (by simp))) (by omega) rfl
  | [d, c], _, one => exact BtT_cast (((BtT.nil 0).snoc (one d (by simp))).snoc (one c (by simp))) (by omega) rfl
  | _ :: _ :: _ :: _, h, _ => exact absurd h (by simp)
theorem enc_sizes {k : Nat} (h : k ≤ 2) : sb 512 k 512 ≤ NB ∧ 512 + 20 + tb 512 k + pb 512 k + 1 ≤ 4000 ∧ sb 512 k (512 + 20 + tb 512 k + 4000 + 1) ≤ NB ∧ 4000 + 2 ≤ NB := by
  have : k = 0 ∨ k = 1 ∨ k = 2 := by omega
  rcases this with rfl | rfl | rfl <;> decide +kernel
theorem sz_enc {m : Int} {e b k : Nat} (he : e < 32 * k) (hb : b < 32 * k) (h : m.natAbs ≤ 2 ^ e) : SzQ k (Rat.divInt m ((2 ^ b : Nat) : Int)) := by
  refine sz_divInt (by omega) ((len_le_iff _ _).2 ?_) ((len_le_iff _ _).2 ?_)
  · rw [BP_two]
    exact Nat.lt_of_le_of_lt h (Nat.pow_lt_pow_right (by omega) he)
  · rw [BP_two, Int.natAbs_natCast]
    exact Nat.pow_lt_pow_right (by omega) hb
theorem cmp_le_dec {a b : Rat} (h : a ≤ b) : decide (cmpQ a b > 0) = false := by
  rw [decide_eq_false_iff_not]
  have := cmpQ_le.2 h
  omega
theorem Numbers_spec (hG : Steady G) (aw : Spec Tryz.prog G 7 [] (bool true)) {t : List (List Raw)} {a : List Raw} (fit : Fits t a) :
    Spec Tryz.prog G 6 [rawT t, rawD a] (bool true) := by
  by_cases ht' : 2 < t.length
  · have g : decide (Int.ofNat t.length > 2) = true := by rw [decide_eq_true_iff]; simp only [Int.ofNat_eq_natCast]; omega
    exact Spec.of_run hG Tryz.func6 (ro := [2]) (m := 60) [.call aw, .eq 20 (eqB g), .call aw] (by kernel_rfl)
  have ht : t.length ≤ 2 := by omega
  have g20 : decide (Int.ofNat t.length > 2) = false := by rw [decide_eq_false_iff_not]; simp only [Int.ofNat_eq_natCast]; omega
  by_cases ha' : 4 < a.length
  · have g : decide (Int.ofNat a.length > 4) = true := by rw [decide_eq_true_iff]; simp only [Int.ofNat_eq_natCast]; omega
    exact Spec.of_run hG Tryz.func6 (ro := [2]) (m := 60) [.call aw, .eq 20 (eqB g20), .eq 25 (eqB g), .call aw] (by kernel_rfl)
  have ha : a.length ≤ 4 := by omega
  have g25 : decide (Int.ofNat a.length > 4) = false := by rw [decide_eq_false_iff_not]; simp only [Int.ofNat_eq_natCast]; omega
  rcases (wn_loop (G := G) hG fit).symm with lp | ⟨hr, lp⟩
  · exact Spec.of_run hG Tryz.func6 (ro := [2]) (m := 60) [.call aw, .eq 20 (eqB g20), .eq 25 (eqB g25), .code lp] (by kernel_rfl)
  have lg := long_spec (G := G) hG fit.al fun r hr => (fit.ar r hr).1
  by_cases hla : ∃ r ∈ a, Raw.long r
  · rw [decide_eq_true hla] at lg
    exact Spec.of_run hG Tryz.func6 (ro := [2]) (m := 60) [.call aw, .eq 20 (eqB g20), .eq 25 (eqB g25), .code lp, .call lg] (by kernel_rfl)
  rw [decide_eq_false hla] at lg
  have okt : ∀ d ∈ t, ∀ r ∈ d, r.ok 2 := fun d hd r hr' => ok2 (fun h => (hr d hd).2 ⟨r, hr', h⟩) ((fit.dl d hd).2 r hr').2
  have oka : ∀ r ∈ a, r.ok 2 := fun r hr' => ok2 (fun h => hla ⟨r, hr', h⟩) (fit.ar r hr').2
  obtain ⟨e, ck, hck⟩ := Check_ex (G := G) hG ht (fun d hd => (hr d hd).1) okt
  by_cases he : ¬ e = 0
  · have eb : (e != 0) = true := by rw [bne_iff_ne]; exact he
    exact Spec.of_run hG Tryz.func6 (ro := [2]) (m := 60) [.call aw, .eq 20 (eqB g20), .eq 25 (eqB g25), .code lp, .call lg, .call ck, .eq 55 (eqB eb)] (by kernel_rfl)
  have he := Decidable.not_not.1 he
  subst he
  obtain ⟨hv, tok⟩ := hck rfl
  obtain ⟨v, vs, hvs⟩ := Valid_ex (G := G) hG ht ha oka ck
  cases v with
  | false =>
    exact Spec.of_run hG Tryz.func6 (ro := [2]) (m := 60) [.call aw, .eq 20 (eqB g20), .eq 25 (eqB g25), .code lp, .call lg, .call ck, .call vs] (by kernel_rfl)
  | true =>
    obtain ⟨va, la⟩ := hvs rfl
    have hk : (t.map qs).length ≤ 2 := by rw [List.length_map]; exact ht
    obtain ⟨z1, z2, z3, z4⟩ := enc_sizes hk
    have bt : BtT 512 (t.map qs) := BtT_512 hk (fun d hd => by
      obtain ⟨c, hc, rfl⟩ := List.mem_map.1 hd
      rw [qs, List.length_map]; exact (hr c hc).1) (fun d hd => by
      obtain ⟨c, hc, rfl⟩ := List.mem_map.1 hd
      exact qs_sz (okt c hc))
    have tB : TowB 512 (t.map qs) := ⟨tok, bt, z1⟩
    have nB : NumB 512 (t.map qs) (qs a) := by
      refine ⟨?_, (Bt.of_sz (qs_sz oka)).mono ?_⟩
      · have e1 : (qs a).length = a.length := List.length_map ..
        rcases la with h | ⟨j, h1, h2⟩
        · exact .inl (List.eq_nil_of_length_eq_zero (by omega))
        · exact .inr ⟨j, by rw [List.length_map]; exact h1, by omega⟩
      · rw [qs, List.length_map]; omega
    obtain ⟨m1, m2, k1, k2, k3, k4, k5, k6, k7, enc⟩ := Enclose_spec (G := G) hG (b := 20) tB nB (by omega) z2 z3 z4
    have sg := Sign_spec (G := G) hG tB nB z1
    have eT : rawT t = TowD (t.map qs) := by
      unfold rawT TowD
      rw [List.length_map, List.map_map]
      congr 3
      exact List.map_congr_left fun d hd => canonD (hv d hd)
    have eA : rawD a = NumD (qs a) := canonD va
    rw [← eT, ← eA] at enc sg
    have B0 : (0 : Int) < ((2 ^ 20 : Nat) : Int) := by decide
    have s1 := sz_enc (k := 126) (b := 20) (by omega) (by omega) k6
    have s2 : SzQ 126 (Rat.divInt (-m2) ((2 ^ 20 : Nat) : Int)) := sz_enc (e := 4000) (by omega) (by omega) (by rw [Int.natAbs_neg]; exact k7)
    have le := divInt_mono B0 k1
    have ii := FR_isI s1 s2 le
    have wd := TWidth_spec (G := G) hG ii (by rw [KB_eq]; omega)
    have is := TSign_spec (G := G) hG ii (by rw [KB_eq]; omega)
    have mk := FMake_spec (G := G) hG (i := 1) (j := 1048576) (by omega) (by omega) (by omega) (by omega) (by omega)
    have sm : SzQ 1 (Rat.divInt 1 1048576) := by unfold SzQ; decide +kernel
    have cm := FCmp_spec (G := G) hG (s2.sub s1).isQ sm.isQ (by rw [KB_eq]; omega) (by rw [KB_eq]; omega)
    have wle : Rat.divInt (-m2) ((2 ^ 20 : Nat) : Int) - Rat.divInt m1 ((2 ^ 20 : Nat) : Int) ≤ Rat.divInt 1 1048576 := by
      rw [divInt_sub]
      exact divInt_mono (d := 1048576) (by omega) (by omega)
    have g94 := cmp_le_dec wle
    have e1 := sgn_divInt (m := m1) B0
    have e2 := sgn_divInt (m := -m2) B0
    unfold sgnIT hasIT at is
    rw [e1, e2] at is
    generalize Rat.divInt m1 ((2 ^ 20 : Nat) : Int) = lo at *
    generalize Rat.divInt (-m2) ((2 ^ 20 : Nat) : Int) = hi at *
    generalize Rat.divInt 1 1048576 = w at *
    by_cases hs : m1.sign = (-m2).sign
    · rw [if_pos hs, decide_eq_true hs] at is
      have fin : m1.sign = sgnL (t.map qs) (qs a) := by
        rcases Int.lt_trichotomy m1 0 with h | h | h
        · rw [Int.sign_eq_neg_one_of_neg h] at hs ⊢
          have : -m2 < 0 := by
            rcases Int.lt_trichotomy (-m2) 0 with g | g | g
            · exact g
            · rw [g] at hs; cases hs
            · rw [Int.sign_eq_one_of_pos g] at hs; cases hs
          rw [k4 (by omega)]
        · rw [h] at hs ⊢
          have : -m2 = 0 := Int.sign_eq_zero_iff_zero.1 hs.symm
          rw [k5 h (by omega)]; rfl
        · rw [Int.sign_eq_one_of_pos h, k3 h]
      exact Spec.of_run hG Tryz.func6 (ro := [2]) (m := 60)
        [.call aw, .eq 20 (eqB g20), .eq 25 (eqB g25), .code lp, .call lg, .call ck, .call vs, .call enc, .call sg, .call mk, .call wd, .call cm, .eq 94 (eqB g94), .call is, .eq 106 (eqB (beqI fin))] (by kernel_rfl)
    · rw [if_neg hs, decide_eq_false hs] at is
      exact Spec.of_run hG Tryz.func6 (ro := [2]) (m := 60)
        [.call aw, .eq 20 (eqB g20), .eq 25 (eqB g25), .code lp, .call lg, .call ck, .call vs, .call enc, .call sg, .call mk, .call wd, .call cm, .eq 94 (eqB g94), .call is] (by kernel_rfl)
end Tw
end Lw
