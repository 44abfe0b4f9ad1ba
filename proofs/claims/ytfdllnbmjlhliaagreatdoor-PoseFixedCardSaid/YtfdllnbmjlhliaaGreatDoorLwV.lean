/- The walk of a long division. No condition. -/
import Derived.Test.YtfdllnbmjlhliaaGreatDoorLwU
namespace Lw
open Go Go.RowKit Go.Proofs

variable {G : World → Prop}

/-! ### The guess. -/
structure DivIn where
  p : Guess
  N : Nat
  Nq : Nat
  n : Nat
  j : Nat
  cap : Nat
  v : List Nat
  F : Nat → Nat
  qs : List D
structure DivIn.ok (d : DivIn) : Prop where
  hp : d.p.ok
  hv : 2 ≤ d.v.length
  hj : d.j + (d.v.length + 1) ≤ d.N
  hN : d.N < 2 ^ 60
  hw2 : d.F (d.j + (d.v.length - 2)) = d.p.w2
  hh : d.p.head < 18446744073709551616
def gueInv (d : DivIn) (t : Nat) : St :=
  lay 158 [(8, nat d.n), (9, rowW d.v), (10, .slc 0 0 d.N d.N), (11, .slc 1 0 d.Nq d.Nq), (12, u64 d.p.top), (13, u64 d.p.next), (14, nat d.j), (15, .slc 0 d.j (d.v.length + 1) d.cap), (17, u64 (d.p.g t)), (18, u64 (d.p.r t))]
    [(0, cel d.N d.F), (1, d.qs)]
theorem lt_lit_true {x c : Nat} (h : x < c) : decide (Int.ofNat x < Int.ofNat c) = true := lt_true h
theorem gt_true {x y : Nat} (h : y < x) : decide (Int.ofNat x > Int.ofNat y) = true := by simpa using h
theorem gt_false {x y : Nat} (h : x ≤ y) : decide (Int.ofNat x > Int.ofNat y) = false := by simpa using h
theorem nat_sub {i k : Nat} (h : i < 2 ^ 60) (hk : k ≤ i) : IntKind.wrap .i64 (Int.ofNat i - Int.ofNat k) = Int.ofNat (i - k) := by
  have h60 : (2:Nat) ^ 60 = 1152921504606846976 := by decide
  rw [wrapS (by simp only [Int.ofNat_eq_natCast]; omega) (by simp only [Int.ofNat_eq_natCast]; omega)]; simp only [Int.ofNat_eq_natCast]; omega
theorem wrap_pred {x : Nat} (h : 0 < x) (h2 : x ≤ 18446744073709551616) : IntKind.wrap .u64 (Int.ofNat x - 1) = Int.ofNat (x - 1) := by
  rw [wrap64i]; simp only [Int.ofNat_eq_natCast]; omega
theorem Guess.g_le (p : Guess) (t : Nat) : p.g t ≤ p.head := by
  unfold Guess.g
  exact Nat.le_trans (Nat.sub_le _ _) (Nat.div_le_self _ _)
theorem Guess.g_pos {p : Guess} {t : Nat} (h : p.more t) : 0 < p.g t := by
  rcases h.2 with h | h
  · omega
  · rcases Nat.eq_zero_or_pos (p.g t) with h0 | h0
    · rw [h0, Nat.zero_mul] at h; omega
    · exact h0
theorem Guess.next_g {p : Guess} {t : Nat} : p.g (t + 1) = p.g t - 1 := by unfold Guess.g; omega
theorem Guess.next_r {p : Guess} {t : Nat} : p.r (t + 1) = p.r t + p.top := by unfold Guess.r; rw [Nat.add_mul, Nat.one_mul]; omega
theorem w2_need {d : DivIn} (hd : d.ok) : (0 < 1 ∧ d.j + (d.v.length - 2) + 1 ≤ (cel d.N d.F).length) := by
  have := hd.hj; have := hd.hv
  rw [cel_len]; omega
theorem gue_round (hG : Steady G) {d : DivIn} (hd : d.ok) {t : Nat} (hm : d.p.more t) :
    Goes Tryz.prog G 0 (loopOf Tryz.f131 1) (gueInv d t) .normal (gueInv d (t + 1)) := by
  have h60 : (2:Nat) ^ 60 = 1152921504606846976 := by decide
  have hg := Guess.g_le d.p t
  have hpos := Guess.g_pos hm
  have hh := hd.hh
  have htop := hd.hp.htop'
  have hr : d.p.r t < 4294967296 := hm.1
  have hw2 := hd.hp.hw2
  have hr2 : d.p.r t * 4294967296 < 18446744073709551616 := by clear hm hpos; omega
  have hw3 : d.p.w2 < 18446744073709551616 := by clear hm hpos; omega
  have hj := hd.hj
  have hv := hd.hv
  have hN := hd.hN
  have hix : d.v.length - 2 < d.v.length + 1 := by omega
  have e : gueInv d (t + 1) = lay 158 [(8, nat d.n), (9, rowW d.v), (10, .slc 0 0 d.N d.N), (11, .slc 1 0 d.Nq d.Nq), (12, u64 d.p.top), (13, u64 d.p.next), (14, nat d.j), (15, .slc 0 d.j (d.v.length + 1) d.cap), (17, u64 (d.p.g t - 1)), (18, u64 (d.p.r t + d.p.top))]
    [(0, cel d.N d.F), (1, d.qs)] := by unfold gueInv; rw [Guess.next_g, Guess.next_r]
  rw [e]; clear e
  rcases Nat.lt_or_ge (d.p.g t) 4294967296 with hlt | hge
  · have hmul : d.p.r t * 4294967296 + d.p.w2 < d.p.g t * d.p.next := by
      rcases hm.2 with h | h
      · exact absurd hlt (Nat.not_lt.2 h)
      · exact h
    have hgn := mul_lt64 hlt hd.hp.hnext
    exact Goes.of_run hG (ro := []) (m := 30) (lay_len ..)
      [.eq 113 (eqB (lt_lit_true hr)), .eq 116 (eqB (ge_lit_false hlt)), .eq 120 (eq64 (wrap_mul (x := d.p.g t) (y := d.p.next) (by omega))), .eq 122 (eq64 (shl32 (x := d.p.r t) hr)),
       .eq 126 (eqS (nat_sub (i := d.v.length) (k := 2) (by omega) hv)), .prop (ix_need hix), .eq 127 (ptr_off 0 d.j (d.v.length - 2)), .prop (w2_need hd),
       .eq 128 (d := ((cel d.N d.F).drop (d.j + (d.v.length - 2))).headD .any) (d' := u32 d.p.w2) (by rw [cel_getD (by omega), hd.hw2]), .eq 129 (eq64 (conv64 hw2)),
       .eq 130 (eq64 (x := IntKind.wrap .u64 (((BitVec.ofInt (IntKind.bits .u64) (Int.ofNat (d.p.r t * 4294967296)) ||| BitVec.ofInt (IntKind.bits .u64) (Int.ofNat d.p.w2)).toNat : Nat) : Int)) (y := Int.ofNat (d.p.r t * 4294967296 + d.p.w2))
          (by rw [or_bits hr2 hw3, or_add hw2])),
       .eq 131 (eqB (gt_true hmul)), .eq 135 (eq64 (wrap_pred hpos (by omega))), .eq 138 (eq64 (wrap_add (x := d.p.r t) (y := d.p.top) (by omega)))] (by kernel_rfl)
  · exact Goes.of_run hG (ro := []) (m := 30) (lay_len ..)
      [.eq 113 (eqB (lt_lit_true hr)), .eq 116 (eqB (ge_lit_true hge)), .eq 135 (eq64 (wrap_pred hpos (by omega))), .eq 138 (eq64 (wrap_add (x := d.p.r t) (y := d.p.top) (by omega)))] (by kernel_rfl)
theorem gue_last (hG : Steady G) {d : DivIn} (hd : d.ok) {t : Nat} (hm : ¬ d.p.more t) :
    Goes Tryz.prog G 0 (loopOf Tryz.f131 1) (gueInv d t) (.exit 2) (gueInv d t) := by
  have h60 : (2:Nat) ^ 60 = 1152921504606846976 := by decide
  have hj := hd.hj
  have hv := hd.hv
  have hN := hd.hN
  have hix : d.v.length - 2 < d.v.length + 1 := by omega
  rcases Nat.lt_or_ge (d.p.r t) 4294967296 with hr | hr
  · have hlt : d.p.g t < 4294967296 := by
      rcases Nat.lt_or_ge (d.p.g t) 4294967296 with h | h
      · exact h
      · exact (hm ⟨hr, .inl h⟩).elim
    have hmul : d.p.g t * d.p.next ≤ d.p.r t * 4294967296 + d.p.w2 := by
      rcases Nat.lt_or_ge (d.p.r t * 4294967296 + d.p.w2) (d.p.g t * d.p.next) with h | h
      · exact (hm ⟨hr, .inr h⟩).elim
      · exact h
    have hw2 := hd.hp.hw2
    have hgn := mul_lt64 hlt hd.hp.hnext
    have hr2 : d.p.r t * 4294967296 < 18446744073709551616 := by omega
    have hw3 : d.p.w2 < 18446744073709551616 := by omega
    exact Goes.of_run hG (ro := []) (m := 30) (lay_len ..)
      [.eq 113 (eqB (lt_lit_true hr)), .eq 116 (eqB (ge_lit_false hlt)), .eq 120 (eq64 (wrap_mul (x := d.p.g t) (y := d.p.next) (by omega))), .eq 122 (eq64 (shl32 (x := d.p.r t) hr)),
       .eq 126 (eqS (nat_sub (i := d.v.length) (k := 2) (by omega) hv)), .prop (ix_need hix), .eq 127 (ptr_off 0 d.j (d.v.length - 2)), .prop (w2_need hd),
       .eq 128 (d := ((cel d.N d.F).drop (d.j + (d.v.length - 2))).headD .any) (d' := u32 d.p.w2) (by rw [cel_getD (by omega), hd.hw2]), .eq 129 (eq64 (conv64 hw2)),
       .eq 130 (eq64 (x := IntKind.wrap .u64 (((BitVec.ofInt (IntKind.bits .u64) (Int.ofNat (d.p.r t * 4294967296)) ||| BitVec.ofInt (IntKind.bits .u64) (Int.ofNat d.p.w2)).toNat : Nat) : Int)) (y := Int.ofNat (d.p.r t * 4294967296 + d.p.w2))
          (by rw [or_bits hr2 hw3, or_add hw2])),
       .eq 131 (eqB (gt_false hmul))] (by kernel_rfl)
  · exact Goes.of_run hG (ro := []) (m := 30) (lay_len ..) [.eq 113 (eqB (lt_false hr))] (by kernel_rfl)
theorem gue_loop (hG : Steady G) {d : DivIn} (hd : d.ok) {T : Nat} (hT : ∀ t, t < T → d.p.more t) (hn : ¬ d.p.more T) :
    Abs Tryz.prog G 158 0 (.loop (loopOf Tryz.f131 1))
      (lay 158 [(8, nat d.n), (9, rowW d.v), (10, .slc 0 0 d.N d.N), (11, .slc 1 0 d.Nq d.Nq), (12, u64 d.p.top), (13, u64 d.p.next), (14, nat d.j), (15, .slc 0 d.j (d.v.length + 1) d.cap), (17, u64 (d.p.head / d.p.top)), (18, u64 (d.p.head % d.p.top))]
        [(0, cel d.N d.F), (1, d.qs)]) (.exit 2) (gueInv d T) := by
  have h := Abs.count (gueInv d) T (fun k => lay_len _ _ _) (by simp) (fun t ht => gue_round hG hd (hT t ht)) (gue_last hG hd hn)
  have e : gueInv d 0 = lay 158 [(8, nat d.n), (9, rowW d.v), (10, .slc 0 0 d.N d.N), (11, .slc 1 0 d.Nq d.Nq), (12, u64 d.p.top), (13, u64 d.p.next), (14, nat d.j), (15, .slc 0 d.j (d.v.length + 1) d.cap), (17, u64 (d.p.head / d.p.top)), (18, u64 (d.p.head % d.p.top))]
        [(0, cel d.N d.F), (1, d.qs)] := by
    have e1 : d.p.g 0 = d.p.head / d.p.top := by unfold Guess.g; exact Nat.sub_zero _
    have e2 : d.p.r 0 = d.p.head % d.p.top := by unfold Guess.r; rw [Nat.zero_mul, Nat.add_zero]
    unfold gueInv; rw [e1, e2]
  rw [e] at h; exact h

/-! ### The rounds. -/
def LongIn.N (d : LongIn) : Nat := d.la + 1
def LongIn.Nq (d : LongIn) : Nat := d.la + 1 - d.lb
def LongIn.v (d : LongIn) : List Nat := digs d.lb d.V
def LongIn.uF (d : LongIn) (c j : Nat) : Nat := d.R c / BP j % 4294967296
def LongIn.qF (d : LongIn) (c j : Nat) : Nat := if c ≤ j then d.U / d.V / BP j % 4294967296 else 0
def longInv (d : LongIn) (c : Nat) : St :=
  lay 158 [(8, nat d.n), (9, rowW d.v), (10, .slc 0 0 d.N d.N), (11, .slc 1 0 d.Nq d.Nq), (12, u64 (d.V / BP (d.lb - 1))), (13, u64 (d.V / BP (d.lb - 2) % 4294967296)), (14, int (cnt c))]
    [(0, cel d.N (d.uF c)), (1, cel d.Nq (d.qF c))]
theorem LongIn.v_len (d : LongIn) : d.v.length = d.lb := digs_len _ _
theorem LongIn.v_val {d : LongIn} (hd : d.ok) : val d.v = d.V := val_digs hd.hV
theorem LongIn.v_dig (d : LongIn) : Dig d.v := digs_dig _ _
def LongIn.gue (d : LongIn) (i : Nat) : DivIn := ⟨d.guess i, d.N, d.Nq, d.n, i, d.N - i, d.v, d.uF (i + 1), cel d.Nq (d.qF (i + 1))⟩
theorem LongIn.gue_ok {d : LongIn} (hd : d.ok) {i : Nat} (hi : i < d.Nq) (hb : d.N < 2 ^ 60) : (d.gue i).ok where
  hp := LongIn.guess_ok hd i
  hv := by show 2 ≤ d.v.length; rw [LongIn.v_len]; exact hd.hlb
  hj := by
    show i + (d.v.length + 1) ≤ d.la + 1
    have h1 : i < d.la + 1 - d.lb := hi
    rw [LongIn.v_len]; omega
  hN := hb
  hw2 := by
    show d.R (i + 1) / BP (i + (d.v.length - 2)) % 4294967296 = d.W i / BP (d.lb - 2) % 4294967296
    rw [LongIn.R_mid', LongIn.v_len]
  hh := by
    show d.W i / BP (d.lb - 1) < 18446744073709551616
    have h1 : d.W i / BP d.lb % 4294967296 < 4294967296 := Nat.mod_lt _ (by omega)
    have h2 : d.W i / BP (d.lb - 1) % 4294967296 < 4294967296 := Nat.mod_lt _ (by omega)
    rw [LongIn.head_eq hd]; omega
def LongIn.rem (d : LongIn) (i g : Nat) : RemIn := ⟨d.N, d.uF (i + 1), i, d.v.length + 1, d.N - i, cel d.Nq (d.qF (i + 1)), d.v, g, d.W i⟩
theorem LongIn.gV_lt {d : LongIn} (hd : d.ok) {g : Nat} (hg : g < 4294967296) : g * d.V < BP (d.lb + 1) := by
  have h1 : g * d.V ≤ 4294967295 * d.V := Nat.mul_le_mul_right _ (by omega)
  have h2 := hd.hV
  rw [BP_succ]; omega
theorem LongIn.rem_ok {d : LongIn} (hd : d.ok) {i g : Nat} (hi : i < d.Nq) (hb : d.N < 2 ^ 60) (hg : g < 4294967296) : (d.rem i g).ok := by
  refine ⟨LongIn.v_dig d, hg, ?_, hb, fun r hr => ?_, ?_, ?_⟩
  · show i + (d.v.length + 1) ≤ d.la + 1
    have h1 : i < d.la + 1 - d.lb := hi
    rw [LongIn.v_len]; omega
  · show d.R (i + 1) / BP (i + r) % 4294967296 = d.W i / BP r % 4294967296
    rw [LongIn.R_mid']
  · show g * val d.v ≤ BP (d.v.length + 1)
    rw [LongIn.v_val hd, LongIn.v_len]; exact Nat.le_of_lt (LongIn.gV_lt hd hg)
  · show d.W i < BP (d.v.length + 1)
    rw [LongIn.v_len]; exact LongIn.W_fits hd i
theorem LongIn.rem_says {d : LongIn} (hd : d.ok) {i g : Nat} (hi : i < d.Nq) (hb : d.N < 2 ^ 60) (hg : g < 4294967296) :
    (Int.ofNat (cSub (d.W i) (g * val d.v) (d.v.length + 1)) == 1) = decide (d.W i < g * d.V) := by
  have := Lw.rem_says (LongIn.rem_ok hd hi hb hg) (by show g * val d.v < BP (d.v.length + 1); rw [LongIn.v_val hd, LongIn.v_len]; exact LongIn.gV_lt hd hg)
  have h2 : (Int.ofNat (cSub (d.W i) (g * val d.v) (d.v.length + 1)) == 1) = decide (d.W i < g * val d.v) := this
  rw [h2, LongIn.v_val hd]
/-- The cells behind a round. -/
theorem LongIn.cells {d : LongIn} (hd : d.ok) (i Z : Nat) (F : Nat → Nat) (hF : ∀ j, F j = d.uF (i + 1) j ∨ (i ≤ j ∧ j < i + (d.lb + 1))) (hZ : ∀ r, r < d.lb + 1 → Z / BP r % 4294967296 = d.W i % d.V / BP r % 4294967296) :
    cel d.N (parF F i Z (d.lb + 1)) = cel d.N (d.uF i) := by
  refine cel_congr fun j _ => ?_
  unfold parF
  by_cases h1 : i ≤ j ∧ j < i + (d.lb + 1)
  · rw [if_pos h1, hZ _ (by omega)]
    show _ = d.R i / BP j % 4294967296
    conv => rhs; rw [show j = i + (j - i) by omega, LongIn.R_mid]
  · rw [if_neg h1]
    rcases hF j with h | h
    · rw [h]
      show d.R (i + 1) / BP j % 4294967296 = d.R i / BP j % 4294967296
      rcases Nat.lt_or_ge j i with h2 | h2
      · exact (LongIn.R_low d h2).symm
      · obtain ⟨h3, h4⟩ := LongIn.R_high hd (i := i) (k := j) (by omega)
        rw [h3, h4]
    · exact absurd h h1
theorem LongIn.qcells {d : LongIn} {i : Nat} (hi : i < d.Nq) {q : Nat} (hq : q % 4294967296 = d.W i / d.V % 4294967296) : splice (cel d.Nq (d.qF (i + 1))) i [u32 (q % 4294967296)] = cel d.Nq (d.qF i) := by
  rw [hq, ← LongIn.digit]
  exact downF hi (fun j => d.U / d.V / BP j % 4294967296)
theorem part_eq (b i k N : Nat) : D.slc b (0 + (Int.ofNat i).toNat * 1) ((Int.ofNat (i + k + 1)).toNat - (Int.ofNat i).toNat) (N - (Int.ofNat i).toNat) = .slc b i (k + 1) (N - i) := by
  simp only [Int.ofNat_eq_natCast, Int.toNat_natCast, Nat.mul_one, Nat.zero_add]
  rw [show i + k + 1 - i = k + 1 by omega]
theorem LongIn.round (hG : Steady G) {d : LongIn} (hd : d.ok) {i : Nat} (hi : i < d.Nq) (hb : d.N < 2 ^ 60) :
    Goes Tryz.prog G 0 (loopOf Tryz.f131 0) (longInv d (i + 1)) .normal (longInv d i) := by
  have h60 : (2:Nat) ^ 60 = 1152921504606846976 := by decide
  have hiN : i + d.v.length + 1 ≤ d.N := by
    have h1 : i < d.la + 1 - d.lb := hi
    show i + d.v.length + 1 ≤ d.la + 1
    rw [LongIn.v_len]; omega
  have hlb := hd.hlb
  have hvl := LongIn.v_len d
  obtain ⟨T, hT, hnT⟩ := Guess.stops (LongIn.guess_ok hd i)
  obtain ⟨hglt, -, -⟩ := Guess.end (LongIn.guess_ok hd i) hT hnT
  obtain ⟨dig1, dig2⟩ := Guess.digit (LongIn.guess_ok hd i) hT hnT
  have hgue := gue_loop (G := G) hG (LongIn.gue_ok hd hi hb) hT hnT
  have hrem := rem_loop (G := G) hG (LongIn.rem_ok hd hi hb hglt)
  have hsay := LongIn.rem_says hd hi hb hglt
  have hw1 : d.W i / BP d.lb % 4294967296 < 4294967296 := Nat.mod_lt _ (by omega)
  have hw2 : d.W i / BP (d.lb - 1) % 4294967296 < 4294967296 := Nat.mod_lt _ (by omega)
  have hor : IntKind.wrap .u64 (((BitVec.ofInt (IntKind.bits .u64) (Int.ofNat (d.W i / BP d.lb % 4294967296 * 4294967296)) ||| BitVec.ofInt (IntKind.bits .u64) (Int.ofNat (d.W i / BP (d.lb - 1) % 4294967296))).toNat : Nat) : Int) = Int.ofNat (d.W i / BP (d.lb - 1)) := by
    rw [or_bits (by omega) (by omega), or_add hw2, ← LongIn.head_eq hd]
  have hhead : d.W i / BP (d.lb - 1) < 18446744073709551616 := by rw [LongIn.head_eq hd]; omega
  have htop : 0 < d.V / BP (d.lb - 1) := by
    have := (LongIn.guess_ok hd i).htop
    have : 2147483648 ≤ d.V / BP (d.lb - 1) := this
    omega
  have c1 : ((cel d.N (d.uF (i + 1))).drop (i + d.v.length)).headD .any = u32 (d.W i / BP d.lb % 4294967296) := by
    rw [cel_getD (by omega)]
    show u32 (d.R (i + 1) / BP (i + d.v.length) % 4294967296) = _
    rw [LongIn.R_mid', hvl]
  have c2 : ((cel d.N (d.uF (i + 1))).drop (i + (d.v.length - 1))).headD .any = u32 (d.W i / BP (d.lb - 1) % 4294967296) := by
    rw [cel_getD (by omega)]
    show u32 (d.R (i + 1) / BP (i + (d.v.length - 1)) % 4294967296) = _
    rw [LongIn.R_mid', hvl]
  have hZr : ∀ r, r < d.lb + 1 → (d.W i + BP (d.v.length + 1) - (d.guess i).g T * val d.v) = (d.W i + BP (d.lb + 1) - (d.guess i).g T * d.V) := fun r _ => by rw [LongIn.v_val hd, hvl]
  by_cases hlt : d.W i < (d.guess i).g T * d.V
  · obtain ⟨hdig, hgpos⟩ := dig1 hlt
    have hdig' : d.W i / d.V = (d.guess i).g T - 1 := hdig
    have hback := back_loop (G := G) hG (p := ⟨d.N, parF (d.uF (i + 1)) i (d.rem i ((d.guess i).g T)).Z (d.v.length + 1), i, d.v.length + 1, d.N - i, cel d.Nq (d.qF (i + 1)), d.v, (d.rem i ((d.guess i).g T)).Z⟩)
      ⟨LongIn.v_dig d, by show i + (d.v.length + 1) ≤ d.N; omega, hb, fun r hr => by
        show parF _ i _ (d.v.length + 1) (i + r) = _
        have hr' : r < d.v.length + 1 := hr
        unfold parF
        rw [if_pos (by omega), show i + r - i = r by omega]⟩
    have e : longInv d i = lay 158 [(8, nat d.n), (9, rowW d.v), (10, .slc 0 0 d.N d.N), (11, .slc 1 0 d.Nq d.Nq), (12, u64 (d.V / BP (d.lb - 1))), (13, u64 (d.V / BP (d.lb - 2) % 4294967296)), (14, int (cnt i))]
        [(0, cel d.N (parF (parF (d.uF (i + 1)) i (d.rem i ((d.guess i).g T)).Z (d.v.length + 1)) i ((d.rem i ((d.guess i).g T)).Z + val d.v) (d.v.length + 1))),
         (1, splice (cel d.Nq (d.qF (i + 1))) i [u32 (((d.guess i).g T - 1) % 4294967296)])] := by
      rw [LongIn.qcells hi (by rw [hdig']), hvl, LongIn.cells hd i _ _ (fun j => ?_) (fun r hr => ?_)]
      · rfl
      · by_cases h : i ≤ j ∧ j < i + (d.lb + 1)
        · exact .inr h
        · left; unfold parF; rw [if_neg h]
      · show (d.W i + BP (d.v.length + 1) - (d.guess i).g T * val d.v + val d.v) / BP r % 4294967296 = _
        rw [LongIn.v_val hd, hvl]
        have hle := LongIn.gV_lt hd hglt
        have hmod : d.W i % d.V = d.W i - ((d.guess i).g T - 1) * d.V := by
          have := Nat.div_add_mod (d.W i) d.V
          rw [hdig', Nat.mul_comm] at this
          omega
        have hge : ((d.guess i).g T - 1) * d.V ≤ d.W i := by rw [← hdig']; exact Nat.div_mul_le_self _ _
        have hsplit : (d.guess i).g T * d.V = ((d.guess i).g T - 1) * d.V + d.V := by
          conv => lhs; rw [show (d.guess i).g T = ((d.guess i).g T - 1) + 1 by omega]
          rw [Nat.add_mul, Nat.one_mul]
        have hsum : d.W i + BP (d.lb + 1) - (d.guess i).g T * d.V + d.V = (d.W i % d.V) + BP (d.lb + 1) := by omega
        rw [hsum, dig_add hr]
    rw [e]; clear e
    exact Goes.of_run hG (ro := []) (m := 60) (lay_len ..)
      [.eq 80 (eqB (x := decide (Int.ofNat i ≥ 0)) (y := true) (by simp)), .eq 88 (eqS (nat_add (i := i) (k := d.v.length) (by omega))), .eq 89 (eqS (nat_succ (i := i + d.v.length) (by omega))),
       .prop (p := 0 ≤ Int.ofNat i ∧ Int.ofNat i ≤ Int.ofNat (i + d.v.length + 1) ∧ Int.ofNat (i + d.v.length + 1) ≤ (d.N : Int) ∧ Int.ofNat i < (d.N : Int)) (by simp only [Int.ofNat_eq_natCast]; omega), .eq 90 (part_eq 0 i d.v.length d.N),
       .prop (ix_need (i := d.v.length) (N := d.v.length + 1) (by omega)), .eq 94 (ptr_off 0 i d.v.length), .prop (p := 0 < 1 ∧ i + d.v.length + 1 ≤ (cel d.N (d.uF (i + 1))).length) (by rw [cel_len]; omega), .eq 95 c1, .eq 96 (eq64 (conv64 hw1)), .eq 97 (eq64 (shl32 hw1)),
       .eq 101 (eqS (nat_sub (i := d.v.length) (k := 1) (by omega) (by omega))), .prop (ix_need (i := d.v.length - 1) (N := d.v.length + 1) (by omega)), .eq 102 (ptr_off 0 i (d.v.length - 1)), .prop (p := 0 < 1 ∧ i + (d.v.length - 1) + 1 ≤ (cel d.N (d.uF (i + 1))).length) (by rw [cel_len]; omega),
       .eq 103 c2, .eq 104 (eq64 (conv64 hw2)), .eq 105 (eq64 hor), .prop (pos_need htop), .eq 108 (eq64 (quo64 (s := d.W i / BP (d.lb - 1)) (d := d.V / BP (d.lb - 1)) hhead)), .prop (pos_need htop), .eq 111 (eq64 (rem64 (d.W i / BP (d.lb - 1)) (d.V / BP (d.lb - 1)))),
       .code hgue, .inl [] Tryz.func150, .code hrem, .eq 45 (eqB (x := Int.ofNat (cSub (d.W i) ((d.guess i).g T * val d.v) (d.v.length + 1)) == 1) (y := true) (by rw [hsay]; simpa using hlt)),
       .eq 144 (eq64 (wrap_pred hgpos (by omega))), .inl [] Tryz.func151, .code hback,
       .eq 151 (eq32 (conv32 ((d.guess i).g T - 1))), .prop (ix_need hi), .eq 152 (ptr_at 1 i), .prop (p := i + 1 ≤ (cel d.Nq (d.qF (i + 1))).length) (by rw [cel_len]; omega), .eq 82 (eqS (cnt_top (n := i) (by omega)))] (by kernel_rfl)
  · have hdig : d.W i / d.V = (d.guess i).g T := dig2 hlt
    have e : longInv d i = lay 158 [(8, nat d.n), (9, rowW d.v), (10, .slc 0 0 d.N d.N), (11, .slc 1 0 d.Nq d.Nq), (12, u64 (d.V / BP (d.lb - 1))), (13, u64 (d.V / BP (d.lb - 2) % 4294967296)), (14, int (cnt i))]
        [(0, cel d.N (parF (d.uF (i + 1)) i (d.rem i ((d.guess i).g T)).Z (d.v.length + 1))), (1, splice (cel d.Nq (d.qF (i + 1))) i [u32 ((d.guess i).g T % 4294967296)])] := by
      rw [LongIn.qcells hi (by rw [hdig]), hvl, LongIn.cells hd i _ _ (fun j => .inl rfl) (fun r hr => ?_)]
      · rfl
      · show (d.W i + BP (d.v.length + 1) - (d.guess i).g T * val d.v) / BP r % 4294967296 = _
        rw [LongIn.v_val hd, hvl]
        have hmod : d.W i % d.V = d.W i - (d.guess i).g T * d.V := by
          have := Nat.div_add_mod (d.W i) d.V
          rw [hdig, Nat.mul_comm] at this
          omega
        have hsum : d.W i + BP (d.lb + 1) - (d.guess i).g T * d.V = (d.W i % d.V) + BP (d.lb + 1) := by omega
        rw [hsum, dig_add hr]
    rw [e]; clear e
    exact Goes.of_run hG (ro := []) (m := 60) (lay_len ..)
      [.eq 80 (eqB (x := decide (Int.ofNat i ≥ 0)) (y := true) (by simp)), .eq 88 (eqS (nat_add (i := i) (k := d.v.length) (by omega))), .eq 89 (eqS (nat_succ (i := i + d.v.length) (by omega))),
       .prop (p := 0 ≤ Int.ofNat i ∧ Int.ofNat i ≤ Int.ofNat (i + d.v.length + 1) ∧ Int.ofNat (i + d.v.length + 1) ≤ (d.N : Int) ∧ Int.ofNat i < (d.N : Int)) (by simp only [Int.ofNat_eq_natCast]; omega), .eq 90 (part_eq 0 i d.v.length d.N),
       .prop (ix_need (i := d.v.length) (N := d.v.length + 1) (by omega)), .eq 94 (ptr_off 0 i d.v.length), .prop (p := 0 < 1 ∧ i + d.v.length + 1 ≤ (cel d.N (d.uF (i + 1))).length) (by rw [cel_len]; omega), .eq 95 c1, .eq 96 (eq64 (conv64 hw1)), .eq 97 (eq64 (shl32 hw1)),
       .eq 101 (eqS (nat_sub (i := d.v.length) (k := 1) (by omega) (by omega))), .prop (ix_need (i := d.v.length - 1) (N := d.v.length + 1) (by omega)), .eq 102 (ptr_off 0 i (d.v.length - 1)), .prop (p := 0 < 1 ∧ i + (d.v.length - 1) + 1 ≤ (cel d.N (d.uF (i + 1))).length) (by rw [cel_len]; omega),
       .eq 103 c2, .eq 104 (eq64 (conv64 hw2)), .eq 105 (eq64 hor), .prop (pos_need htop), .eq 108 (eq64 (quo64 (s := d.W i / BP (d.lb - 1)) (d := d.V / BP (d.lb - 1)) hhead)), .prop (pos_need htop), .eq 111 (eq64 (rem64 (d.W i / BP (d.lb - 1)) (d.V / BP (d.lb - 1)))),
       .code hgue, .inl [] Tryz.func150, .code hrem, .eq 45 (eqB (x := Int.ofNat (cSub (d.W i) ((d.guess i).g T * val d.v) (d.v.length + 1)) == 1) (y := false) (by rw [hsay]; simpa using hlt)),
       .eq 151 (eq32 (conv32 ((d.guess i).g T))), .prop (ix_need hi), .eq 152 (ptr_at 1 i), .prop (p := i + 1 ≤ (cel d.Nq (d.qF (i + 1))).length) (by rw [cel_len]; omega), .eq 82 (eqS (cnt_top (n := i) (by omega)))] (by kernel_rfl)
end Lw
