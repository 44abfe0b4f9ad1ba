/- The walks of the bits of a word and of the guess at a digit. No condition. -/
import Derived.Test.YtmcpfihkambgnaaGreatLwJ
namespace Lw
open Go Go.RowKit Go.Proofs

variable {G : World → Prop}

/-! ### Len32 -/
def opsText : List Oper → Option ByteArray
  | [] => none
  | o :: l => match o.op with
    | .index _ (.const v) _ => (match v with | .string s => some s | _ => opsText l)
    | _ => opsText l
def Code.text : Code → Option ByteArray
  | .seq x y => match Code.text x with | some s => some s | none => Code.text y
  | .cond _ x y => match Code.text x with | some s => some s | none => Code.text y
  | .block _ x => Code.text x
  | .loop x => Code.text x
  | .region _ ops _ => opsText ops.toList
  | _ => none
noncomputable def lenTab : ByteArray := ((Tryz.f292.body.map Code.text).getD none).getD ⟨#[]⟩
theorem lenTab_size : lenTab.size = 256 := by kernel_rfl
theorem lenTab_all : (List.range 256).all (fun i => ((lenTab[i]?).getD 0).toNat == bl i) = true := by kernel_rfl
theorem lenTab_at {x : Nat} (h : x < 256) : ((lenTab[x]?).getD 0).toNat = bl x := by
  have := lenTab_all
  rw [List.all_eq_true] at this
  simpa using this x (by simpa using h)
theorem tab_need {x : Nat} (h : x < 256) : (0:Int) ≤ Int.ofNat x ∧ (Int.ofNat x).toNat < lenTab.size := by
  rw [lenTab_size]; simp; omega
theorem shr_u32 {x : Nat} (k : Nat) (h : k ≤ 32) : (Int.ofNat x).fdiv (2 ^ min (Int.ofNat k).toNat (IntKind.bits .u32)) = Int.ofNat (x / 2 ^ k) := by
  have e : min (Int.ofNat k).toNat (IntKind.bits .u32) = k := by
    show min k 32 = k
    omega
  rw [e, fdiv_pow]
theorem conv8 {x : Nat} (h : x < 256) : IntKind.wrap .u8 (Int.ofNat x) = Int.ofNat x := by
  have e : (2 ^ IntKind.bits .u8 : Int) = 256 := by decide
  simp only [IntKind.wrap, IntKind.signed, e, Bool.false_and, Bool.false_eq_true, if_false]
  exact Int.emod_eq_of_lt (by simp) (by simp; omega)
theorem convS {x : Nat} (h : x < 2 ^ 60) : IntKind.wrap .i64 (Int.ofNat x) = Int.ofNat x := by
  have h60 : (2:Nat) ^ 60 = 1152921504606846976 := by decide
  exact wrapS (by simp only [Int.ofNat_eq_natCast]; omega) (by simp only [Int.ofNat_eq_natCast]; omega)
theorem eq8 {x y : Int} (h : x = y) : D.lit (.int .u8 x) = D.lit (.int .u8 y) := by rw [h]
theorem ge_lit_true {x c : Nat} (h : c ≤ x) : decide (Int.ofNat x ≥ Int.ofNat c) = true := by simpa using h
theorem ge_lit_false {x c : Nat} (h : x < c) : decide (Int.ofNat x ≥ Int.ofNat c) = false := by simpa using h
theorem bl_small {x : Nat} (h : x < 256) : bl x ≤ 8 := by
  by_cases h0 : x = 0
  · subst h0; decide
  · have h1 := bl_le h0
    rcases Nat.lt_or_ge 8 (bl x) with h2 | h2
    · have : 2 ^ 8 ≤ 2 ^ (bl x - 1) := Nat.pow_le_pow_right (by omega) (by omega)
      omega
    · exact h2
theorem len32_spec (hG : Steady G) {x : Nat} (h : x < 4294967296) : Spec Tryz.prog G 292 [u32 x] (nat (bl x)) := by
  have tail : ∀ y n, y < 256 → n ≤ 24 → IntKind.wrap .i64 (Int.ofNat n + Int.ofNat (bl y)) = Int.ofNat (n + bl y) := fun y n h1 h2 => nat_add (by have := bl_small h1; omega)
  by_cases h1 : 65536 ≤ x
  · have e1 := bl_shift (x := x) (k := 16) (by simpa using h1)
    by_cases h2 : 256 ≤ x / 2 ^ 16
    · have e2 := bl_shift (x := x / 2 ^ 16) (k := 8) (by simpa using h2)
      have h3 : x / 2 ^ 16 / 2 ^ 8 < 256 := by omega
      have e3 : bl x = 24 + bl (x / 2 ^ 16 / 2 ^ 8) := by omega
      rw [e3]
      exact Spec.of_run hG Tryz.func292 (ro := []) (m := 30)
        [.eq 4 (eqB (ge_lit_true h1)), .eq 6 (eq32 (shr_u32 (x := x) 16 (by omega))), .eq 8 (eqB (ge_lit_true h2)), .eq 10 (eq32 (shr_u32 (x := x / 2 ^ 16) 8 (by omega))),
         .eq 15 (eq8 (conv8 h3)), .prop (tab_need h3), .eq 16 (eq8 (x := Int.ofNat ((lenTab[(Int.ofNat (x / 2 ^ 16 / 2 ^ 8)).toNat]?).getD 0).toNat) (y := Int.ofNat (bl (x / 2 ^ 16 / 2 ^ 8))) (congrArg Int.ofNat (lenTab_at h3))),
         .eq 17 (eqS (convS (x := bl (x / 2 ^ 16 / 2 ^ 8)) (by have := bl_small h3; omega))), .eq 18 (eqS (tail _ 24 h3 (by omega)))] (by kernel_rfl)
    · have h3 : x / 2 ^ 16 < 256 := by omega
      have e3 : bl x = 16 + bl (x / 2 ^ 16) := by omega
      rw [e3]
      exact Spec.of_run hG Tryz.func292 (ro := []) (m := 30)
        [.eq 4 (eqB (ge_lit_true h1)), .eq 6 (eq32 (shr_u32 (x := x) 16 (by omega))), .eq 8 (eqB (ge_lit_false h3)),
         .eq 15 (eq8 (conv8 h3)), .prop (tab_need h3), .eq 16 (eq8 (x := Int.ofNat ((lenTab[(Int.ofNat (x / 2 ^ 16)).toNat]?).getD 0).toNat) (y := Int.ofNat (bl (x / 2 ^ 16))) (congrArg Int.ofNat (lenTab_at h3))),
         .eq 17 (eqS (convS (x := bl (x / 2 ^ 16)) (by have := bl_small h3; omega))), .eq 18 (eqS (tail _ 16 h3 (by omega)))] (by kernel_rfl)
  · by_cases h2 : 256 ≤ x
    · have e2 := bl_shift (x := x) (k := 8) (by simpa using h2)
      have h3 : x / 2 ^ 8 < 256 := by omega
      have e3 : bl x = 8 + bl (x / 2 ^ 8) := by omega
      rw [e3]
      exact Spec.of_run hG Tryz.func292 (ro := []) (m := 30)
        [.eq 4 (eqB (ge_lit_false (Nat.lt_of_not_le h1))), .eq 8 (eqB (ge_lit_true h2)), .eq 10 (eq32 (shr_u32 (x := x) 8 (by omega))),
         .eq 15 (eq8 (conv8 h3)), .prop (tab_need h3), .eq 16 (eq8 (x := Int.ofNat ((lenTab[(Int.ofNat (x / 2 ^ 8)).toNat]?).getD 0).toNat) (y := Int.ofNat (bl (x / 2 ^ 8))) (congrArg Int.ofNat (lenTab_at h3))),
         .eq 17 (eqS (convS (x := bl (x / 2 ^ 8)) (by have := bl_small h3; omega))), .eq 18 (eqS (tail _ 8 h3 (by omega)))] (by kernel_rfl)
    · have h3 : x < 256 := by omega
      have e3 : bl x = 0 + bl x := by omega
      rw [e3]
      exact Spec.of_run hG Tryz.func292 (ro := []) (m := 30)
        [.eq 4 (eqB (ge_lit_false (Nat.lt_of_not_le h1))), .eq 8 (eqB (ge_lit_false h3)),
         .eq 15 (eq8 (conv8 h3)), .prop (tab_need h3), .eq 16 (eq8 (x := Int.ofNat ((lenTab[(Int.ofNat x).toNat]?).getD 0).toNat) (y := Int.ofNat (bl x)) (congrArg Int.ofNat (lenTab_at h3))),
         .eq 17 (eqS (convS (x := bl x) (by have := bl_small h3; omega))), .eq 18 (eqS (tail _ 0 h3 (by omega)))] (by kernel_rfl)
theorem bl_u32 {x : Nat} (h : x < 4294967296) : bl x ≤ 32 := by
  by_cases h0 : x = 0
  · subst h0; decide
  · have h1 := bl_le h0
    rcases Nat.lt_or_ge 32 (bl x) with h2 | h2
    · have : 2 ^ 32 ≤ 2 ^ (bl x - 1) := Nat.pow_le_pow_right (by omega) (by omega)
      omega
    · exact h2
theorem lead_spec (hG : Steady G) {x : Nat} (h : x < 4294967296) : Spec Tryz.prog G 233 [u32 x] (nat (32 - bl x)) := by
  have := bl_u32 h
  exact Spec.of_run hG Tryz.func233 (ro := []) (m := 30)
    [.call (len32_spec hG h), .eq 5 (eqS (x := IntKind.wrap .i64 (32 - Int.ofNat (bl x))) (y := Int.ofNat (32 - bl x)) (by rw [wrapS (by simp; omega) (by simp; omega)]; simp; omega))] (by kernel_rfl)
end Lw

namespace Lw
open Go Go.RowKit Go.Proofs

variable {G : World → Prop}

/-! ### The guess. -/
structure DivIn where
  p : Guess
  N : Nat
  Nq : Nat
  n : Nat
  j : Nat
  cap : Nat
  v : List Nat
  F : Nat → Nat
  qs : List D
structure DivIn.ok (d : DivIn) : Prop where
  hp : d.p.ok
  hv : 2 ≤ d.v.length
  hj : d.j + (d.v.length + 1) ≤ d.N
  hN : d.N < 2 ^ 60
  hw2 : d.F (d.j + (d.v.length - 2)) = d.p.w2
  hh : d.p.head < 18446744073709551616
def gueInv (d : DivIn) (t : Nat) : St :=
  lay 158 [(8, nat d.n), (9, rowW d.v), (10, .slc 0 0 d.N d.N), (11, .slc 1 0 d.Nq d.Nq), (12, u64 d.p.top), (13, u64 d.p.next), (14, nat d.j), (15, .slc 0 d.j (d.v.length + 1) d.cap), (17, u64 (d.p.g t)), (18, u64 (d.p.r t))]
    [(0, cel d.N d.F), (1, d.qs)]
theorem lt_lit_true {x c : Nat} (h : x < c) : decide (Int.ofNat x < Int.ofNat c) = true := lt_true h
theorem gt_true {x y : Nat} (h : y < x) : decide (Int.ofNat x > Int.ofNat y) = true := by simpa using h
theorem gt_false {x y : Nat} (h : x ≤ y) : decide (Int.ofNat x > Int.ofNat y) = false := by simpa using h
theorem nat_sub {i k : Nat} (h : i < 2 ^ 60) (hk : k ≤ i) : IntKind.wrap .i64 (Int.ofNat i - Int.ofNat k) = Int.ofNat (i - k) := by
  have h60 : (2:Nat) ^ 60 = 1152921504606846976 := by decide
  rw [wrapS (by simp only [Int.ofNat_eq_natCast]; omega) (by simp only [Int.ofNat_eq_natCast]; omega)]; simp only [Int.ofNat_eq_natCast]; omega
theorem wrap_pred {x : Nat} (h : 0 < x) (h2 : x ≤ 18446744073709551616) : IntKind.wrap .u64 (Int.ofNat x - 1) = Int.ofNat (x - 1) := by
  rw [wrap64i]; simp only [Int.ofNat_eq_natCast]; omega
theorem Guess.g_le (p : Guess) (t : Nat) : p.g t ≤ p.head := by
  unfold Guess.g
  exact Nat.le_trans (Nat.sub_le _ _) (Nat.div_le_self _ _)
theorem Guess.g_pos {p : Guess} {t : Nat} (h : p.more t) : 0 < p.g t := by
  rcases h.2 with h | h
  · omega
  · rcases Nat.eq_zero_or_pos (p.g t) with h0 | h0
    · rw [h0, Nat.zero_mul] at h; omega
    · exact h0
theorem Guess.next_g {p : Guess} {t : Nat} : p.g (t + 1) = p.g t - 1 := by unfold Guess.g; omega
theorem Guess.next_r {p : Guess} {t : Nat} : p.r (t + 1) = p.r t + p.top := by unfold Guess.r; rw [Nat.add_mul, Nat.one_mul]; omega
theorem w2_need {d : DivIn} (hd : d.ok) : (0 < 1 ∧ d.j + (d.v.length - 2) + 1 ≤ (cel d.N d.F).length) := by
  have := hd.hj; have := hd.hv
  rw [cel_len]; omega
theorem gue_round (hG : Steady G) {d : DivIn} (hd : d.ok) {t : Nat} (hm : d.p.more t) :
    Goes Tryz.prog G 0 (loopOf Tryz.f171 1) (gueInv d t) .normal (gueInv d (t + 1)) := by
  have h60 : (2:Nat) ^ 60 = 1152921504606846976 := by decide
  have hg := Guess.g_le d.p t
  have hpos := Guess.g_pos hm
  have hh := hd.hh
  have htop := hd.hp.htop'
  have hr : d.p.r t < 4294967296 := hm.1
  have hw2 := hd.hp.hw2
  have hr2 : d.p.r t * 4294967296 < 18446744073709551616 := by clear hm hpos; omega
  have hw3 : d.p.w2 < 18446744073709551616 := by clear hm hpos; omega
  have hj := hd.hj
  have hv := hd.hv
  have hN := hd.hN
  have hix : d.v.length - 2 < d.v.length + 1 := by omega
  have e : gueInv d (t + 1) = lay 158 [(8, nat d.n), (9, rowW d.v), (10, .slc 0 0 d.N d.N), (11, .slc 1 0 d.Nq d.Nq), (12, u64 d.p.top), (13, u64 d.p.next), (14, nat d.j), (15, .slc 0 d.j (d.v.length + 1) d.cap), (17, u64 (d.p.g t - 1)), (18, u64 (d.p.r t + d.p.top))]
    [(0, cel d.N d.F), (1, d.qs)] := by unfold gueInv; rw [Guess.next_g, Guess.next_r]
  rw [e]; clear e
  rcases Nat.lt_or_ge (d.p.g t) 4294967296 with hlt | hge
  · have hmul : d.p.r t * 4294967296 + d.p.w2 < d.p.g t * d.p.next := by
      rcases hm.2 with h | h
      · exact absurd hlt (Nat.not_lt.2 h)
      · exact h
    have hgn := mul_lt64 hlt hd.hp.hnext
    exact Goes.of_run hG (ro := []) (m := 30) (lay_len ..)
      [.eq 113 (eqB (lt_lit_true hr)), .eq 116 (eqB (ge_lit_false hlt)), .eq 120 (eq64 (wrap_mul (x := d.p.g t) (y := d.p.next) (by omega))), .eq 122 (eq64 (shl32 (x := d.p.r t) hr)),
       .eq 126 (eqS (nat_sub (i := d.v.length) (k := 2) (by omega) hv)), .prop (ix_need hix), .eq 127 (ptr_off 0 d.j (d.v.length - 2)), .prop (w2_need hd),
       .eq 128 (d := ((cel d.N d.F).drop (d.j + (d.v.length - 2))).headD .any) (d' := u32 d.p.w2) (by rw [cel_getD (by omega), hd.hw2]), .eq 129 (eq64 (conv64 hw2)),
       .eq 130 (eq64 (x := IntKind.wrap .u64 (((BitVec.ofInt (IntKind.bits .u64) (Int.ofNat (d.p.r t * 4294967296)) ||| BitVec.ofInt (IntKind.bits .u64) (Int.ofNat d.p.w2)).toNat : Nat) : Int)) (y := Int.ofNat (d.p.r t * 4294967296 + d.p.w2))
          (by rw [or_bits hr2 hw3, or_add hw2])),
       .eq 131 (eqB (gt_true hmul)), .eq 135 (eq64 (wrap_pred hpos (by omega))), .eq 138 (eq64 (wrap_add (x := d.p.r t) (y := d.p.top) (by omega)))] (by kernel_rfl)
  · exact Goes.of_run hG (ro := []) (m := 30) (lay_len ..)
      [.eq 113 (eqB (lt_lit_true hr)), .eq 116 (eqB (ge_lit_true hge)), .eq 135 (eq64 (wrap_pred hpos (by omega))), .eq 138 (eq64 (wrap_add (x := d.p.r t) (y := d.p.top) (by omega)))] (by kernel_rfl)
theorem gue_last (hG : Steady G) {d : DivIn} (hd : d.ok) {t : Nat} (hm : ¬ d.p.more t) :
    Goes Tryz.prog G 0 (loopOf Tryz.f171 1) (gueInv d t) (.exit 2) (gueInv d t) := by
  have h60 : (2:Nat) ^ 60 = 1152921504606846976 := by decide
  have hj := hd.hj
  have hv := hd.hv
  have hN := hd.hN
  have hix : d.v.length - 2 < d.v.length + 1 := by omega
  rcases Nat.lt_or_ge (d.p.r t) 4294967296 with hr | hr
  · have hlt : d.p.g t < 4294967296 := by
      rcases Nat.lt_or_ge (d.p.g t) 4294967296 with h | h
      · exact h
      · exact (hm ⟨hr, .inl h⟩).elim
    have hmul : d.p.g t * d.p.next ≤ d.p.r t * 4294967296 + d.p.w2 := by
      rcases Nat.lt_or_ge (d.p.r t * 4294967296 + d.p.w2) (d.p.g t * d.p.next) with h | h
      · exact (hm ⟨hr, .inr h⟩).elim
      · exact h
    have hw2 := hd.hp.hw2
    have hgn := mul_lt64 hlt hd.hp.hnext
    have hr2 : d.p.r t * 4294967296 < 18446744073709551616 := by omega
    have hw3 : d.p.w2 < 18446744073709551616 := by omega
    exact Goes.of_run hG (ro := []) (m := 30) (lay_len ..)
      [.eq 113 (eqB (lt_lit_true hr)), .eq 116 (eqB (ge_lit_false hlt)), .eq 120 (eq64 (wrap_mul (x := d.p.g t) (y := d.p.next) (by omega))), .eq 122 (eq64 (shl32 (x := d.p.r t) hr)),
       .eq 126 (eqS (nat_sub (i := d.v.length) (k := 2) (by omega) hv)), .prop (ix_need hix), .eq 127 (ptr_off 0 d.j (d.v.length - 2)), .prop (w2_need hd),
       .eq 128 (d := ((cel d.N d.F).drop (d.j + (d.v.length - 2))).headD .any) (d' := u32 d.p.w2) (by rw [cel_getD (by omega), hd.hw2]), .eq 129 (eq64 (conv64 hw2)),
       .eq 130 (eq64 (x := IntKind.wrap .u64 (((BitVec.ofInt (IntKind.bits .u64) (Int.ofNat (d.p.r t * 4294967296)) ||| BitVec.ofInt (IntKind.bits .u64) (Int.ofNat d.p.w2)).toNat : Nat) : Int)) (y := Int.ofNat (d.p.r t * 4294967296 + d.p.w2))
          (by rw [or_bits hr2 hw3, or_add hw2])),
       .eq 131 (eqB (gt_false hmul))] (by kernel_rfl)
  · exact Goes.of_run hG (ro := []) (m := 30) (lay_len ..) [.eq 113 (eqB (lt_false hr))] (by kernel_rfl)
theorem gue_loop (hG : Steady G) {d : DivIn} (hd : d.ok) {T : Nat} (hT : ∀ t, t < T → d.p.more t) (hn : ¬ d.p.more T) :
    Abs Tryz.prog G 158 0 (.loop (loopOf Tryz.f171 1))
      (lay 158 [(8, nat d.n), (9, rowW d.v), (10, .slc 0 0 d.N d.N), (11, .slc 1 0 d.Nq d.Nq), (12, u64 d.p.top), (13, u64 d.p.next), (14, nat d.j), (15, .slc 0 d.j (d.v.length + 1) d.cap), (17, u64 (d.p.head / d.p.top)), (18, u64 (d.p.head % d.p.top))]
        [(0, cel d.N d.F), (1, d.qs)]) (.exit 2) (gueInv d T) := by
  have h := Abs.count (gueInv d) T (fun k => lay_len _ _ _) (by simp) (fun t ht => gue_round hG hd (hT t ht)) (gue_last hG hd hn)
  have e : gueInv d 0 = lay 158 [(8, nat d.n), (9, rowW d.v), (10, .slc 0 0 d.N d.N), (11, .slc 1 0 d.Nq d.Nq), (12, u64 d.p.top), (13, u64 d.p.next), (14, nat d.j), (15, .slc 0 d.j (d.v.length + 1) d.cap), (17, u64 (d.p.head / d.p.top)), (18, u64 (d.p.head % d.p.top))]
        [(0, cel d.N d.F), (1, d.qs)] := by
    have e1 : d.p.g 0 = d.p.head / d.p.top := by unfold Guess.g; exact Nat.sub_zero _
    have e2 : d.p.r 0 = d.p.head % d.p.top := by unfold Guess.r; rw [Nat.zero_mul, Nat.add_zero]
    unfold gueInv; rw [e1, e2]
  rw [e] at h; exact h

/-! ### The rounds. -/
def LongIn.N (d : LongIn) : Nat := d.la + 1
def LongIn.Nq (d : LongIn) : Nat := d.la + 1 - d.lb
def LongIn.v (d : LongIn) : List Nat := digs d.lb d.V
def LongIn.uF (d : LongIn) (c j : Nat) : Nat := d.R c / BP j % 4294967296
def LongIn.qF (d : LongIn) (c j : Nat) : Nat := if c ≤ j then d.U / d.V / BP j % 4294967296 else 0
def longInv (d : LongIn) (c : Nat) : St :=
  lay 158 [(8, nat d.n), (9, rowW d.v), (10, .slc 0 0 d.N d.N), (11, .slc 1 0 d.Nq d.Nq), (12, u64 (d.V / BP (d.lb - 1))), (13, u64 (d.V / BP (d.lb - 2) % 4294967296)), (14, int (cnt c))]
    [(0, cel d.N (d.uF c)), (1, cel d.Nq (d.qF c))]
theorem LongIn.v_len (d : LongIn) : d.v.length = d.lb := digs_len _ _
theorem LongIn.v_val {d : LongIn} (hd : d.ok) : val d.v = d.V := val_digs hd.hV
theorem LongIn.v_dig (d : LongIn) : Dig d.v := digs_dig _ _
def LongIn.gue (d : LongIn) (i : Nat) : DivIn := ⟨d.guess i, d.N, d.Nq, d.n, i, d.N - i, d.v, d.uF (i + 1), cel d.Nq (d.qF (i + 1))⟩
theorem LongIn.gue_ok {d : LongIn} (hd : d.ok) {i : Nat} (hi : i < d.Nq) (hb : d.N < 2 ^ 60) : (d.gue i).ok where
  hp := LongIn.guess_ok hd i
  hv := by show 2 ≤ d.v.length; rw [LongIn.v_len]; exact hd.hlb
  hj := by
    show i + (d.v.length + 1) ≤ d.la + 1
    have h1 : i < d.la + 1 - d.lb := hi
    rw [LongIn.v_len]; omega
  hN := hb
  hw2 := by
    show d.R (i + 1) / BP (i + (d.v.length - 2)) % 4294967296 = d.W i / BP (d.lb - 2) % 4294967296
    rw [LongIn.R_mid', LongIn.v_len]
  hh := by
    show d.W i / BP (d.lb - 1) < 18446744073709551616
    have h1 : d.W i / BP d.lb % 4294967296 < 4294967296 := Nat.mod_lt _ (by omega)
    have h2 : d.W i / BP (d.lb - 1) % 4294967296 < 4294967296 := Nat.mod_lt _ (by omega)
    rw [LongIn.head_eq hd]; omega
def LongIn.rem (d : LongIn) (i g : Nat) : RemIn := ⟨d.N, d.uF (i + 1), i, d.v.length + 1, d.N - i, cel d.Nq (d.qF (i + 1)), d.v, g, d.W i⟩
theorem LongIn.gV_lt {d : LongIn} (hd : d.ok) {g : Nat} (hg : g < 4294967296) : g * d.V < BP (d.lb + 1) := by
  have h1 : g * d.V ≤ 4294967295 * d.V := Nat.mul_le_mul_right _ (by omega)
  have h2 := hd.hV
  rw [BP_succ]; omega
theorem LongIn.rem_ok {d : LongIn} (hd : d.ok) {i g : Nat} (hi : i < d.Nq) (hb : d.N < 2 ^ 60) (hg : g < 4294967296) : (d.rem i g).ok := by
  refine ⟨LongIn.v_dig d, hg, ?_, hb, fun r hr => ?_, ?_, ?_⟩
  · show i + (d.v.length + 1) ≤ d.la + 1
    have h1 : i < d.la + 1 - d.lb := hi
    rw [LongIn.v_len]; omega
  · show d.R (i + 1) / BP (i + r) % 4294967296 = d.W i / BP r % 4294967296
    rw [LongIn.R_mid']
  · show g * val d.v ≤ BP (d.v.length + 1)
    rw [LongIn.v_val hd, LongIn.v_len]; exact Nat.le_of_lt (LongIn.gV_lt hd hg)
  · show d.W i < BP (d.v.length + 1)
    rw [LongIn.v_len]; exact LongIn.W_fits hd i
theorem LongIn.rem_says {d : LongIn} (hd : d.ok) {i g : Nat} (hi : i < d.Nq) (hb : d.N < 2 ^ 60) (hg : g < 4294967296) :
    (Int.ofNat (cSub (d.W i) (g * val d.v) (d.v.length + 1)) == 1) = decide (d.W i < g * d.V) := by
  have := Lw.rem_says (LongIn.rem_ok hd hi hb hg) (by show g * val d.v < BP (d.v.length + 1); rw [LongIn.v_val hd, LongIn.v_len]; exact LongIn.gV_lt hd hg)
  have h2 : (Int.ofNat (cSub (d.W i) (g * val d.v) (d.v.length + 1)) == 1) = decide (d.W i < g * val d.v) := this
  rw [h2, LongIn.v_val hd]
/-- The cells behind a round. -/
theorem LongIn.cells {d : LongIn} (hd : d.ok) (i Z : Nat) (F : Nat → Nat) (hF : ∀ j, F j = d.uF (i + 1) j ∨ (i ≤ j ∧ j < i + (d.lb + 1))) (hZ : ∀ r, r < d.lb + 1 → Z / BP r % 4294967296 = d.W i % d.V / BP r % 4294967296) :
    cel d.N (parF F i Z (d.lb + 1)) = cel d.N (d.uF i) := by
  refine cel_congr fun j _ => ?_
  unfold parF
  by_cases h1 : i ≤ j ∧ j < i + (d.lb + 1)
  · rw [if_pos h1, hZ _ (by omega)]
    show _ = d.R i / BP j % 4294967296
    conv => rhs; rw [show j = i + (j - i) by omega, LongIn.R_mid]
  · rw [if_neg h1]
    rcases hF j with h | h
    · rw [h]
      show d.R (i + 1) / BP j % 4294967296 = d.R i / BP j % 4294967296
      rcases Nat.lt_or_ge j i with h2 | h2
      · exact (LongIn.R_low d h2).symm
      · obtain ⟨h3, h4⟩ := LongIn.R_high hd (i := i) (k := j) (by omega)
        rw [h3, h4]
    · exact absurd h h1
theorem LongIn.qcells {d : LongIn} {i : Nat} (hi : i < d.Nq) {q : Nat} (hq : q % 4294967296 = d.W i / d.V % 4294967296) : splice (cel d.Nq (d.qF (i + 1))) i [u32 (q % 4294967296)] = cel d.Nq (d.qF i) := by
  rw [hq, ← LongIn.digit]
  exact downF hi (fun j => d.U / d.V / BP j % 4294967296)
theorem part_eq (b i k N : Nat) : D.slc b (0 + (Int.ofNat i).toNat * 1) ((Int.ofNat (i + k + 1)).toNat - (Int.ofNat i).toNat) (N - (Int.ofNat i).toNat) = .slc b i (k + 1) (N - i) := by
  simp only [Int.ofNat_eq_natCast, Int.toNat_natCast, Nat.mul_one, Nat.zero_add]
  rw [show i + k + 1 - i = k + 1 by omega]
theorem LongIn.round (hG : Steady G) {d : LongIn} (hd : d.ok) {i : Nat} (hi : i < d.Nq) (hb : d.N < 2 ^ 60) :
    Goes Tryz.prog G 0 (loopOf Tryz.f171 0) (longInv d (i + 1)) .normal (longInv d i) := by
  have h60 : (2:Nat) ^ 60 = 1152921504606846976 := by decide
  have hiN : i + d.v.length + 1 ≤ d.N := by
    have h1 : i < d.la + 1 - d.lb := hi
    show i + d.v.length + 1 ≤ d.la + 1
    rw [LongIn.v_len]; omega
  have hlb := hd.hlb
  have hvl := LongIn.v_len d
  obtain ⟨T, hT, hnT⟩ := Guess.stops (LongIn.guess_ok hd i)
  obtain ⟨hglt, -, -⟩ := Guess.end (LongIn.guess_ok hd i) hT hnT
  obtain ⟨dig1, dig2⟩ := Guess.digit (LongIn.guess_ok hd i) hT hnT
  have hgue := gue_loop (G := G) hG (LongIn.gue_ok hd hi hb) hT hnT
  have hrem := rem_loop (G := G) hG (LongIn.rem_ok hd hi hb hglt)
  have hsay := LongIn.rem_says hd hi hb hglt
  have hw1 : d.W i / BP d.lb % 4294967296 < 4294967296 := Nat.mod_lt _ (by omega)
  have hw2 : d.W i / BP (d.lb - 1) % 4294967296 < 4294967296 := Nat.mod_lt _ (by omega)
  have hor : IntKind.wrap .u64 (((BitVec.ofInt (IntKind.bits .u64) (Int.ofNat (d.W i / BP d.lb % 4294967296 * 4294967296)) ||| BitVec.ofInt (IntKind.bits .u64) (Int.ofNat (d.W i / BP (d.lb - 1) % 4294967296))).toNat : Nat) : Int) = Int.ofNat (d.W i / BP (d.lb - 1)) := by
    rw [or_bits (by omega) (by omega), or_add hw2, ← LongIn.head_eq hd]
  have hhead : d.W i / BP (d.lb - 1) < 18446744073709551616 := by rw [LongIn.head_eq hd]; omega
  have htop : 0 < d.V / BP (d.lb - 1) := by
    have := (LongIn.guess_ok hd i).htop
    have : 2147483648 ≤ d.V / BP (d.lb - 1) := this
    omega
  have c1 : ((cel d.N (d.uF (i + 1))).drop (i + d.v.length)).headD .any = u32 (d.W i / BP d.lb % 4294967296) := by
    rw [cel_getD (by omega)]
    show u32 (d.R (i + 1) / BP (i + d.v.length) % 4294967296) = _
    rw [LongIn.R_mid', hvl]
  have c2 : ((cel d.N (d.uF (i + 1))).drop (i + (d.v.length - 1))).headD .any = u32 (d.W i / BP (d.lb - 1) % 4294967296) := by
    rw [cel_getD (by omega)]
    show u32 (d.R (i + 1) / BP (i + (d.v.length - 1)) % 4294967296) = _
    rw [LongIn.R_mid', hvl]
  have hZr : ∀ r, r < d.lb + 1 → (d.W i + BP (d.v.length + 1) - (d.guess i).g T * val d.v) = (d.W i + BP (d.lb + 1) - (d.guess i).g T * d.V) := fun r _ => by rw [LongIn.v_val hd, hvl]
  by_cases hlt : d.W i < (d.guess i).g T * d.V
  · obtain ⟨hdig, hgpos⟩ := dig1 hlt
    have hdig' : d.W i / d.V = (d.guess i).g T - 1 := hdig
    have hback := back_loop (G := G) hG (p := ⟨d.N, parF (d.uF (i + 1)) i (d.rem i ((d.guess i).g T)).Z (d.v.length + 1), i, d.v.length + 1, d.N - i, cel d.Nq (d.qF (i + 1)), d.v, (d.rem i ((d.guess i).g T)).Z⟩)
      ⟨LongIn.v_dig d, by show i + (d.v.length + 1) ≤ d.N; omega, hb, fun r hr => by
        show parF _ i _ (d.v.length + 1) (i + r) = _
        have hr' : r < d.v.length + 1 := hr
        unfold parF
        rw [if_pos (by omega), show i + r - i = r by omega]⟩
    have e : longInv d i = lay 158 [(8, nat d.n), (9, rowW d.v), (10, .slc 0 0 d.N d.N), (11, .slc 1 0 d.Nq d.Nq), (12, u64 (d.V / BP (d.lb - 1))), (13, u64 (d.V / BP (d.lb - 2) % 4294967296)), (14, int (cnt i))]
        [(0, cel d.N (parF (parF (d.uF (i + 1)) i (d.rem i ((d.guess i).g T)).Z (d.v.length + 1)) i ((d.rem i ((d.guess i).g T)).Z + val d.v) (d.v.length + 1))),
         (1, splice (cel d.Nq (d.qF (i + 1))) i [u32 (((d.guess i).g T - 1) % 4294967296)])] := by
      rw [LongIn.qcells hi (by rw [hdig']), hvl, LongIn.cells hd i _ _ (fun j => ?_) (fun r hr => ?_)]
      · rfl
      · by_cases h : i ≤ j ∧ j < i + (d.lb + 1)
        · exact .inr h
        · left; unfold parF; rw [if_neg h]
      · show (d.W i + BP (d.v.length + 1) - (d.guess i).g T * val d.v + val d.v) / BP r % 4294967296 = _
        rw [LongIn.v_val hd, hvl]
        have hle := LongIn.gV_lt hd hglt
        have hmod : d.W i % d.V = d.W i - ((d.guess i).g T - 1) * d.V := by
          have := Nat.div_add_mod (d.W i) d.V
          rw [hdig', Nat.mul_comm] at this
          omega
        have hge : ((d.guess i).g T - 1) * d.V ≤ d.W i := by rw [← hdig']; exact Nat.div_mul_le_self _ _
        have hsplit : (d.guess i).g T * d.V = ((d.guess i).g T - 1) * d.V + d.V := by
          conv => lhs; rw [show (d.guess i).g T = ((d.guess i).g T - 1) + 1 by omega]
          rw [Nat.add_mul, Nat.one_mul]
        have hsum : d.W i + BP (d.lb + 1) - (d.guess i).g T * d.V + d.V = (d.W i % d.V) + BP (d.lb + 1) := by omega
        rw [hsum, dig_add hr]
    rw [e]; clear e
    exact Goes.of_run hG (ro := []) (m := 60) (lay_len ..)
      [.eq 80 (eqB (x := decide (Int.ofNat i ≥ 0)) (y := true) (by simp)), .eq 88 (eqS (nat_add (i := i) (k := d.v.length) (by omega))), .eq 89 (eqS (nat_succ (i := i + d.v.length) (by omega))),
       .prop (p := 0 ≤ Int.ofNat i ∧ Int.ofNat i ≤ Int.ofNat (i + d.v.length + 1) ∧ Int.ofNat (i + d.v.length + 1) ≤ (d.N : Int) ∧ Int.ofNat i < (d.N : Int)) (by simp only [Int.ofNat_eq_natCast]; omega), .eq 90 (part_eq 0 i d.v.length d.N),
       .prop (ix_need (i := d.v.length) (N := d.v.length + 1) (by omega)), .eq 94 (ptr_off 0 i d.v.length), .prop (p := 0 < 1 ∧ i + d.v.length + 1 ≤ (cel d.N (d.uF (i + 1))).length) (by rw [cel_len]; omega), .eq 95 c1, .eq 96 (eq64 (conv64 hw1)), .eq 97 (eq64 (shl32 hw1)),
       .eq 101 (eqS (nat_sub (i := d.v.length) (k := 1) (by omega) (by omega))), .prop (ix_need (i := d.v.length - 1) (N := d.v.length + 1) (by omega)), .eq 102 (ptr_off 0 i (d.v.length - 1)), .prop (p := 0 < 1 ∧ i + (d.v.length - 1) + 1 ≤ (cel d.N (d.uF (i + 1))).length) (by rw [cel_len]; omega),
       .eq 103 c2, .eq 104 (eq64 (conv64 hw2)), .eq 105 (eq64 hor), .prop (pos_need htop), .eq 108 (eq64 (quo64 (s := d.W i / BP (d.lb - 1)) (d := d.V / BP (d.lb - 1)) hhead)), .prop (pos_need htop), .eq 111 (eq64 (rem64 (d.W i / BP (d.lb - 1)) (d.V / BP (d.lb - 1)))),
       .code hgue, .inl [] Tryz.func235, .code hrem, .eq 45 (eqB (x := Int.ofNat (cSub (d.W i) ((d.guess i).g T * val d.v) (d.v.length + 1)) == 1) (y := true) (by rw [hsay]; simpa using hlt)),
       .eq 144 (eq64 (wrap_pred hgpos (by omega))), .inl [] Tryz.func236, .code hback,
       .eq 151 (eq32 (conv32 ((d.guess i).g T - 1))), .prop (ix_need hi), .eq 152 (ptr_at 1 i), .prop (p := i + 1 ≤ (cel d.Nq (d.qF (i + 1))).length) (by rw [cel_len]; omega), .eq 82 (eqS (cnt_top (n := i) (by omega)))] (by kernel_rfl)
  · have hdig : d.W i / d.V = (d.guess i).g T := dig2 hlt
    have e : longInv d i = lay 158 [(8, nat d.n), (9, rowW d.v), (10, .slc 0 0 d.N d.N), (11, .slc 1 0 d.Nq d.Nq), (12, u64 (d.V / BP (d.lb - 1))), (13, u64 (d.V / BP (d.lb - 2) % 4294967296)), (14, int (cnt i))]
        [(0, cel d.N (parF (d.uF (i + 1)) i (d.rem i ((d.guess i).g T)).Z (d.v.length + 1))), (1, splice (cel d.Nq (d.qF (i + 1))) i [u32 ((d.guess i).g T % 4294967296)])] := by
      rw [LongIn.qcells hi (by rw [hdig]), hvl, LongIn.cells hd i _ _ (fun j => .inl rfl) (fun r hr => ?_)]
      · rfl
      · show (d.W i + BP (d.v.length + 1) - (d.guess i).g T * val d.v) / BP r % 4294967296 = _
        rw [LongIn.v_val hd, hvl]
        have hmod : d.W i % d.V = d.W i - (d.guess i).g T * d.V := by
          have := Nat.div_add_mod (d.W i) d.V
          rw [hdig, Nat.mul_comm] at this
          omega
        have hsum : d.W i + BP (d.lb + 1) - (d.guess i).g T * d.V = (d.W i % d.V) + BP (d.lb + 1) := by omega
        rw [hsum, dig_add hr]
    rw [e]; clear e
    exact Goes.of_run hG (ro := []) (m := 60) (lay_len ..)
      [.eq 80 (eqB (x := decide (Int.ofNat i ≥ 0)) (y := true) (by simp)), .eq 88 (eqS (nat_add (i := i) (k := d.v.length) (by omega))), .eq 89 (eqS (nat_succ (i := i + d.v.length) (by omega))),
       .prop (p := 0 ≤ Int.ofNat i ∧ Int.ofNat i ≤ Int.ofNat (i + d.v.length + 1) ∧ Int.ofNat (i + d.v.length + 1) ≤ (d.N : Int) ∧ Int.ofNat i < (d.N : Int)) (by simp only [Int.ofNat_eq_natCast]; omega), .eq 90 (part_eq 0 i d.v.length d.N),
       .prop (ix_need (i := d.v.length) (N := d.v.length + 1) (by omega)), .eq 94 (ptr_off 0 i d.v.length), .prop (p := 0 < 1 ∧ i + d.v.length + 1 ≤ (cel d.N (d.uF (i + 1))).length) (by rw [cel_len]; omega), .eq 95 c1, .eq 96 (eq64 (conv64 hw1)), .eq 97 (eq64 (shl32 hw1)),
       .eq 101 (eqS (nat_sub (i := d.v.length) (k := 1) (by omega) (by omega))), .prop (ix_need (i := d.v.length - 1) (N := d.v.length + 1) (by omega)), .eq 102 (ptr_off 0 i (d.v.length - 1)), .prop (p := 0 < 1 ∧ i + (d.v.length - 1) + 1 ≤ (cel d.N (d.uF (i + 1))).length) (by rw [cel_len]; omega),
       .eq 103 c2, .eq 104 (eq64 (conv64 hw2)), .eq 105 (eq64 hor), .prop (pos_need htop), .eq 108 (eq64 (quo64 (s := d.W i / BP (d.lb - 1)) (d := d.V / BP (d.lb - 1)) hhead)), .prop (pos_need htop), .eq 111 (eq64 (rem64 (d.W i / BP (d.lb - 1)) (d.V / BP (d.lb - 1)))),
       .code hgue, .inl [] Tryz.func235, .code hrem, .eq 45 (eqB (x := Int.ofNat (cSub (d.W i) ((d.guess i).g T * val d.v) (d.v.length + 1)) == 1) (y := false) (by rw [hsay]; simpa using hlt)),
       .eq 151 (eq32 (conv32 ((d.guess i).g T))), .prop (ix_need hi), .eq 152 (ptr_at 1 i), .prop (p := i + 1 ≤ (cel d.Nq (d.qF (i + 1))).length) (by rw [cel_len]; omega), .eq 82 (eqS (cnt_top (n := i) (by omega)))] (by kernel_rfl)
end Lw

namespace Lw
open Go Go.RowKit Go.Proofs

variable {G : World → Prop}

theorem SpecN.row {P : Program} {f : FuncId} {args : List D} {n : Nat} {cs : List D} (h : SpecN P G f args n cs) : Spec P G f args (.row n false cs) := by
  intro w F vals h1 h2 h3
  refine (h w F vals h1 h2 h3).mono fun e w' hend => ?_
  obtain ⟨k, us, ty, rfl, q1, q2, q3, q4, q5, q6, q7⟩ := hend
  refine ⟨_, rfl, ?_, q6, q7⟩
  have hr := q5.mono (w' := w') (X' := F) (fun a u hu hx => ⟨hu, fun hf => hx (.inl hf)⟩)
  refine .row _ _ _ _ _ _ hr.1 (Nat.le_refl _) q1 (fun h => by cases h) (fun i hi => ⟨_, rfl, fun hf => ?_, ?_⟩) hr.2
  · have := h3 k hf; omega
  · rw [Addr.lit_add, Nat.zero_add, cell_of_row w' _ _ us ty (0, 0) q3]
    simp at hi ⊢
theorem up_row (hG : Steady G) {l : List Nat} (hl : Dig l) {n : Nat} (hn : n ≤ 31) (h1 : l.length ≤ 2 ^ 36) :
    Spec Tryz.prog G 234 [rowW l, nat n] (rowW (digs (l.length + 1) (val l * 2 ^ n))) := by
  have := SpecN.row (up_spec (G := G) hG hl hn h1)
  unfold rowW
  rw [digs_len]; exact this
theorem trim_words (hG : Steady G) (a : Nat) (h : (words a).length ≤ 2 ^ 36) : Spec Tryz.prog G 182 [rowW (words a)] (rowW (words a)) := by
  have h36 : (2:Nat) ^ 36 = 68719476736 := by decide
  have h40 : (2:Nat) ^ 40 = 1099511627776 := by decide
  have := trim_spec (G := G) hG (dig_words a) (by omega)
  rwa [val_words] at this
theorem trim_one (hG : Steady G) {x : Nat} (h : x < 4294967296) : Spec Tryz.prog G 182 [rowW [x]] (rowW (words x)) := by
  have := trim_spec (G := G) hG (l := [x]) (fun y hy => by simp at hy; omega) (by simp)
  have e : val [x] = x := by simp [val]
  rwa [e] at this
theorem digs_take {N M x : Nat} (h : N ≤ M) : (digs M x).take N = digs N x := by
  unfold digs
  rw [← List.map_take, List.take_range, Nat.min_eq_left h]
theorem long_loop (hG : Steady G) {d : LongIn} (hd : d.ok) (hb : d.N < 2 ^ 60) :
    Abs Tryz.prog G 158 0 (.loop (loopOf Tryz.f171 0))
      (lay 158 [(8, nat d.n), (9, rowW d.v), (10, .slc 0 0 d.N d.N), (11, .slc 1 0 d.Nq d.Nq), (12, u64 (d.V / BP (d.lb - 1))), (13, u64 (d.V / BP (d.lb - 2) % 4294967296)), (14, int (cnt d.Nq))]
        [(0, (digs d.N d.U).map u32), (1, List.replicate d.Nq (u32 0))]) (.exit 0) (longInv d 0) := by
  have hlast : Goes Tryz.prog G 0 (loopOf Tryz.f171 0) (longInv d 0) (.exit 0) (longInv d 0) := Goes.of_run hG (ro := []) (m := 30) (lay_len ..) [] (by kernel_rfl)
  have h := Abs.down (longInv d) d.Nq (fun k => lay_len _ _ _) (by simp) (fun i hi => LongIn.round hG hd hi hb) hlast
  have e : longInv d d.Nq = lay 158 [(8, nat d.n), (9, rowW d.v), (10, .slc 0 0 d.N d.N), (11, .slc 1 0 d.Nq d.Nq), (12, u64 (d.V / BP (d.lb - 1))), (13, u64 (d.V / BP (d.lb - 2) % 4294967296)), (14, int (cnt d.Nq))]
        [(0, (digs d.N d.U).map u32), (1, List.replicate d.Nq (u32 0))] := by
    have hst : d.U < BP d.Nq * d.V := (LongIn.start hd).1
    have f1 : cel d.N (d.uF d.Nq) = cel d.N (fun j => d.U / BP j % 4294967296) := cel_congr fun j _ => by
      unfold LongIn.uF LongIn.R
      rw [Nat.mod_eq_of_lt hst]
    have f2 : cel d.Nq (d.qF d.Nq) = cel d.Nq (fun _ => 0) := cel_congr fun j hj => by unfold LongIn.qF; rw [if_neg (by omega)]
    rw [cel_zero, ← cel_digs]
    unfold longInv
    rw [f1, f2]
  rw [e] at h; exact h
theorem cel_same (N : Nat) (f : Nat → Nat) (s : Nat) (h : ∀ j, j < N → f j = s / BP j % 4294967296) : D.row N false (((cel N f).drop 0).take N) = rowW (digs N s) := by
  rw [← cel_row, cel_congr h]
theorem divide_lt (hG : Steady G) {a b : Nat} (hab : a < b) (h1 : (words a).length ≤ 2 ^ 36) (h2 : (words b).length ≤ 2 ^ 36) :
    Spec Tryz.prog G 171 [rowW (words a), rowW (words b)] (.tup [rowW [], rowW (words a)]) :=
  Spec.of_run hG Tryz.func171 (ro := []) (m := 60)
    [.call (compare_spec hG a b h1 h2), .eq 22 (eqB (x := decide (cmpI a b < 0)) (y := true) (by unfold cmpI; rw [if_pos hab]; rfl)), .call (trim_words hG a h1)] (by kernel_rfl)
theorem cmp_ge {a b : Nat} (h : b ≤ a) : decide (cmpI a b < 0) = false := by
  unfold cmpI
  rw [if_neg (by omega)]
  split <;> rfl
theorem divide_one (hG : Steady G) {a b : Nat} (hab : b ≤ a) (hb0 : 0 < b) (hb1 : (words b).length = 1) (h1 : (words a).length ≤ 2 ^ 36) :
    Spec Tryz.prog G 171 [rowW (words a), rowW (words b)] (.tup [rowW (words (a / b)), rowW (words (a % b))]) := by
  have h36 : (2:Nat) ^ 36 = 68719476736 := by decide
  have hbl : b < 4294967296 := by
    have := (len_le_iff b 1).1 (by omega)
    rwa [BP_succ, BP_zero] at this
  have hg : (words b).getD 0 0 = b := by rw [words_getD, BP_zero, Nat.div_one, Nat.mod_eq_of_lt hbl]
  have hs := short_spec (G := G) hG (dig_words a) hb0 hbl h1
  rw [val_words] at hs
  have hm : a % b < b := Nat.mod_lt _ hb0
  have h0 : 0 < (words b).length := by omega
  exact Spec.of_run hG Tryz.func171 (ro := []) (m := 60)
    [.call (compare_spec hG a b h1 (by omega)), .eq 22 (eqB (cmp_ge hab)), .eq 27 (eqB (x := Int.ofNat (words b).length == 1) (y := true) (by rw [hb1]; rfl)),
     .prop (at_need (i := 0) h0), .prop (load_need (i := 0) h0), .eq 32 (d := (((words b).map u32).drop ((Int.ofNat 0).toNat * 1)).headD .any) (d' := u32 b) (by rw [headD_need h0, hg]), .call hs, .call (trim_one (x := a % b) hG (by omega))] (by kernel_rfl)
theorem divide_long (hG : Steady G) {a b : Nat} (hab : b ≤ a) (hb2 : 2 ≤ (words b).length) (h1 : (words a).length ≤ 2 ^ 36) :
    Spec Tryz.prog G 171 [rowW (words a), rowW (words b)] (.tup [rowW (words (a / b)), rowW (words (a % b))]) := by
  have h36 : (2:Nat) ^ 36 = 68719476736 := by decide
  have h37 : (2:Nat) ^ 37 = 137438953472 := by decide
  have h40 : (2:Nat) ^ 40 = 1099511627776 := by decide
  have h60 : (2:Nat) ^ 60 = 1152921504606846976 := by decide
  have hd := LongIn.normal hb2 hab
  have hlen : (words b).length ≤ (words a).length := (len_le_iff b _).2 (Nat.lt_of_le_of_lt hab ((len_le_iff a _).1 (Nat.le_refl _)))
  generalize hx : (words b).getD ((words b).length - 1) 0 = x at hd
  have hxl : x < 4294967296 := by rw [← hx]; exact (dig_words b).getD _
  generalize hdd : (⟨a, b, 32 - bl x, (words a).length, (words b).length⟩ : LongIn) = d at hd
  have e1 : d.n = 32 - bl x := by rw [← hdd]
  have e2 : d.N = (words a).length + 1 := by rw [← hdd]; rfl
  have e3 : d.lb = (words b).length := by rw [← hdd]
  have e4 : d.U = a * 2 ^ d.n := by rw [← hdd]; rfl
  have e5 : d.V = b * 2 ^ d.n := by rw [← hdd]; rfl
  have e6 : d.Nq = (words a).length + 1 - (words b).length := by rw [← hdd]; rfl
  have e7 : d.a = a := by rw [← hdd]
  have e8 : d.b = b := by rw [← hdd]
  have hlast : (words b).length - 1 < (words b).length := by omega
  have hub := up_row (G := G) hG (dig_words b) hd.hn (by omega)
  have hua := up_spec (G := G) hG (dig_words a) hd.hn h1
  rw [val_words, ← e5, ← e3] at hub
  rw [val_words, ← e4, ← e2] at hua
  have hvl := LongIn.v_len d
  have hloop := long_loop (G := G) hG hd (by rw [e2]; omega)
  have ht := trim_spec (G := G) hG (l := digs d.Nq (d.U / d.V)) (digs_dig _ _) (by rw [digs_len, e6]; omega)
  have hq : d.U / d.V < BP d.Nq := by
    have h2 := (LongIn.start hd).1
    rw [Nat.div_lt_iff_lt_mul (LongIn.V_pos hd)]; exact h2
  have hqq : words (d.U / d.V) = words (a / b) := by rw [LongIn.quot, e7, e8]
  rw [words_digs hq, hqq] at ht
  have hR0 : d.R 0 < BP d.N := Nat.lt_of_le_of_lt (Nat.mod_le _ _) (LongIn.start hd).2
  have hdn := down_spec (G := G) hG (l := digs d.N (d.R 0)) (digs_dig _ _) hd.hn (by rw [digs_len, e2]; omega)
  rw [val_digs hR0, LongIn.R_zero, e7, e8] at hdn
  have hv1 : d.v.length - 1 < d.v.length := by have := hd.hlb; omega
  have hv2 : d.v.length - 2 < d.v.length := by have := hd.hlb; omega
  have g1 : d.v.getD (d.v.length - 1) 0 = d.V / BP (d.lb - 1) := by
    have := (LongIn.guess_ok hd 0).htop'
    have h3 : d.V / BP (d.lb - 1) < 4294967296 := this
    rw [hvl]
    show (digs d.lb d.V).getD (d.lb - 1) 0 = _
    rw [digs_getD (by have := hd.hlb; omega), Nat.mod_eq_of_lt h3]
  have g2 : d.v.getD (d.v.length - 2) 0 = d.V / BP (d.lb - 2) % 4294967296 := by
    rw [hvl]
    show (digs d.lb d.V).getD (d.lb - 2) 0 = _
    rw [digs_getD (by have := hd.hlb; omega)]
  have hw1 := (LongIn.v_dig d).getD (d.v.length - 1)
  have hw2 := (LongIn.v_dig d).getD (d.v.length - 2)
  rw [g1] at hw1
  rw [g2] at hw2
  have hsl : D.row ((Int.ofNat (words b).length).toNat - (0:Int).toNat) (false && false) ((((digs (d.lb + 1) d.V).map u32).drop ((0:Int).toNat * 1)).take (((Int.ofNat (words b).length).toNat - (0:Int).toNat) * 1)) = rowW d.v := by
    simp only [Int.ofNat_eq_natCast, Int.toNat_natCast, Int.toNat_zero, Nat.mul_one, Nat.sub_zero, List.drop_zero, Bool.false_and]
    rw [← List.map_take, ← e3, digs_take (by omega)]
    show _ = D.row d.v.length false (d.v.map u32)
    rw [hvl]; rfl
  exact Spec.of_run hG Tryz.func171 (ro := []) (m := 60) (args := [rowW (words a), rowW (words b)])
    [.call (compare_spec hG a b h1 (by omega)), .eq 22 (eqB (cmp_ge hab)), .eq 27 (eqB (x := Int.ofNat (words b).length == 1) (y := false) (by rw [beq_eq_false_iff_ne]; simp only [Int.ofNat_eq_natCast]; omega)),
     .eq 43 (eqS (nat_sub (i := (words b).length) (k := 1) (by omega) (by omega))), .prop (at_need hlast), .prop (load_need hlast), .eq 45 (d := (((words b).map u32).drop ((Int.ofNat ((words b).length - 1)).toNat * 1)).headD .any) (d' := u32 x) (by rw [headD_need hlast, hx]),
     .call (lead_spec hG hxl), .eq 46 (d := nat (32 - bl x)) (d' := nat d.n) (by rw [e1]), .call hub, .prop (p := (0:Int) ≤ 0 ∧ 0 ≤ Int.ofNat (words b).length ∧ Int.ofNat (words b).length ≤ ((digs (d.lb + 1) d.V).length : Int)) (by rw [digs_len, e3]; simp only [Int.ofNat_eq_natCast]; omega),
     .eq 52 hsl, .callN hua,
     .eq 60 (d := .lit (.int .i64 (IntKind.wrap .i64 (Int.ofNat d.N - Int.ofNat d.v.length)))) (d' := nat d.Nq) (by rw [nat_sub (by rw [e2]; omega) (by rw [hvl, e2, e3]; omega), hvl]; rfl), .prop (make_need (N := d.Nq) (by rw [e6]; omega)),
     .eq 65 (eqS (nat_sub (i := d.v.length) (k := 1) (by rw [hvl, e3]; omega) (by have := hd.hlb; omega))), .prop (at_need hv1), .prop (load_need hv1), .eq 67 (d := ((d.v.map u32).drop ((Int.ofNat (d.v.length - 1)).toNat * 1)).headD .any) (d' := u32 (d.V / BP (d.lb - 1))) (by rw [headD_need hv1, g1]),
     .eq 68 (eq64 (conv64 hw1)), .eq 72 (eqS (nat_sub (i := d.v.length) (k := 2) (by rw [hvl, e3]; omega) (by have := hd.hlb; omega))), .prop (at_need hv2), .prop (load_need hv2),
     .eq 74 (d := ((d.v.map u32).drop ((Int.ofNat (d.v.length - 2)).toNat * 1)).headD .any) (d' := u32 (d.V / BP (d.lb - 2) % 4294967296)) (by rw [headD_need hv2, g2]), .eq 75 (eq64 (conv64 hw2)),
     .eq 78 (eqS (cnt_top (n := d.Nq) (by rw [e6]; omega))), .code hloop, .freeze 0, .freeze 1,
     .eq 153 (cel_same d.Nq (d.qF 0) (d.U / d.V) (fun j _ => by unfold LongIn.qF; rw [if_pos (Nat.zero_le _)])), .call ht, .eq 155 (cel_same d.N (d.uF 0) (d.R 0) (fun j _ => rfl)), .call hdn] (by kernel_rfl)
/-- Quotient and rest of words. -/
theorem divide_spec (hG : Steady G) {a b : Nat} (hb0 : 0 < b) (h1 : (words a).length ≤ 2 ^ 36) (h2 : (words b).length ≤ 2 ^ 36) :
    Spec Tryz.prog G 171 [rowW (words a), rowW (words b)] (.tup [rowW (words (a / b)), rowW (words (a % b))]) := by
  rcases Nat.lt_or_ge a b with h | h
  · rw [Nat.div_eq_of_lt h, Nat.mod_eq_of_lt h, words_zero]
    exact divide_lt hG h h1 h2
  · have hp := words_len_pos (n := b) (by omega)
    by_cases hone : (words b).length = 1
    · exact divide_one hG h hb0 hone h1
    · exact divide_long hG h (by omega) h1
end Lw

namespace Lw
open Go Go.RowKit Go.Proofs

variable {G : World → Prop}

/-- A valid integer: sign and size. -/
def wv (s : Bool) (n : Nat) : D := .agg [bool s, rowW (words n)]
def mkI (s : Bool) (n : Nat) : Int := if s then -(n : Int) else n
def W (i : Int) : D := wv (decide (i < 0)) i.natAbs
theorem W_mk {s : Bool} {n : Nat} (h : s = true → 0 < n) : W (mkI s n) = wv s n := by
  cases s with
  | false =>
    have e : mkI false n = (n : Int) := rfl
    have e2 : decide ((n : Int) < 0) = false := by simp
    rw [e]; unfold W; rw [e2]; rfl
  | true =>
    have hn := h rfl
    have e : mkI true n = -(n : Int) := rfl
    have e2 : decide (-(n : Int) < 0) = true := by simp; omega
    rw [e]; unfold W; rw [e2, Int.natAbs_neg]; rfl
theorem mk_of (i : Int) : ∃ s n, mkI s n = i ∧ (s = true → 0 < n) ∧ n = i.natAbs := by
  by_cases h : i < 0
  · exact ⟨true, i.natAbs, by unfold mkI; rw [if_pos rfl]; omega, fun _ => by omega, rfl⟩
  · exact ⟨false, i.natAbs, by unfold mkI; rw [if_neg (by simp)]; omega, fun h => (by cases h), rfl⟩
/-- Few enough words. -/
def Sz (n : Nat) : Prop := (words n).length ≤ 2 ^ 30
theorem Sz.le36 {n : Nat} (h : Sz n) : (words n).length ≤ 2 ^ 36 := Nat.le_trans h (by decide)
theorem len_lt60 {n : Nat} (h : (words n).length ≤ 2 ^ 36) : (words n).length < 2 ^ 60 := Nat.lt_of_le_of_lt h (by decide)
theorem words_ne {n : Nat} (h : 0 < n) : (Int.ofNat (words n).length == 0) = false := by
  have := words_len_pos (n := n) (by omega)
  rw [beq_eq_false_iff_ne]; simp only [Int.ofNat_eq_natCast]; omega

theorem valid_spec (hG : Steady G) {s : Bool} {n : Nat} (hs : s = true → 0 < n) (hn : (words n).length ≤ 2 ^ 36) : Spec Tryz.prog G 107 [wv s n] (bool true) := by
  rcases Nat.eq_zero_or_pos n with rfl | h
  · cases s with
    | false => exact Spec.of_run hG Tryz.func107 (ro := [1]) (m := 30) [] (by kernel_rfl)
    | true => exact absurd (hs rfl) (by omega)
  · have hp := words_len_pos (n := n) (by omega)
    have hlt : (words n).length - 1 < (words n).length := by omega
    have hl := words_last (n := n) (by omega)
    exact Spec.of_run hG Tryz.func107 (ro := [1]) (m := 30)
      [.eq 6 (eqB (words_ne h)), .eq 15 (eqS (nat_sub (i := (words n).length) (k := 1) (len_lt60 hn) (by omega))), .prop (at_need hlt), .prop (load_need hlt), .eq 17 (headD_need hlt),
       .eq 18 (eqB (x := Int.ofNat ((words n).getD ((words n).length - 1) 0) != 0) (y := true) (by simp only [bne_iff_ne, Int.ofNat_eq_natCast]; omega))] (by kernel_rfl)
theorem mag_spec (hG : Steady G) {s : Bool} {n : Nat} (hs : s = true → 0 < n) (hn : (words n).length ≤ 2 ^ 36) : Spec Tryz.prog G 124 [wv s n] (rowW (words n)) :=
  Spec.of_run hG Tryz.func124 (ro := [1]) (m := 30) [.call (valid_spec hG hs hn)] (by kernel_rfl)
theorem neg_spec (hG : Steady G) {s : Bool} {n : Nat} (hs : s = true → 0 < n) (hn : (words n).length ≤ 2 ^ 36) : Spec Tryz.prog G 125 [wv s n] (bool s) :=
  Spec.of_run hG Tryz.func125 (ro := [1]) (m := 30) [.call (valid_spec hG hs hn)] (by kernel_rfl)
theorem len_pos_dec (n : Nat) : decide (Int.ofNat (words n).length > 0) = decide (0 < n) := by
  rcases Nat.eq_zero_or_pos n with rfl | h
  · rfl
  · have := words_len_pos (n := n) (by omega)
    rw [decide_eq_true h, decide_eq_true]; simp only [Int.ofNat_eq_natCast]; omega
theorem whole_spec (hG : Steady G) (s : Bool) {n : Nat} (hn : (words n).length ≤ 2 ^ 36) : Spec Tryz.prog G 123 [bool s, rowW (words n)] (wv (s && decide (0 < n)) n) := by
  cases s with
  | false => exact Spec.of_run hG Tryz.func123 (ro := []) (m := 30) [.call (trim_words hG n hn)] (by kernel_rfl)
  | true => exact Spec.of_run hG Tryz.func123 (ro := []) (m := 30) [.call (trim_words hG n hn), .eq 11 (eqB (len_pos_dec n))] (by kernel_rfl)
/-- The same for any words. -/
theorem whole_any (hG : Steady G) (s : Bool) {l : List Nat} (hl : Dig l) (hn : l.length ≤ 2 ^ 36) : Spec Tryz.prog G 123 [bool s, rowW l] (wv (s && decide (0 < val l)) (val l)) := by
  have h36 : (2:Nat) ^ 36 = 68719476736 := by decide
  have h40 : (2:Nat) ^ 40 = 1099511627776 := by decide
  have ht := trim_spec (G := G) hG hl (by omega)
  cases s with
  | false => exact Spec.of_run hG Tryz.func123 (ro := []) (m := 30) [.call ht] (by kernel_rfl)
  | true => exact Spec.of_run hG Tryz.func123 (ro := []) (m := 30) [.call ht, .eq 11 (eqB (len_pos_dec (val l)))] (by kernel_rfl)
theorem sign_wv (hG : Steady G) {s : Bool} {n : Nat} (hs : s = true → 0 < n) (hn : (words n).length ≤ 2 ^ 36) : Spec Tryz.prog G 109 [wv s n] (int (if n = 0 then 0 else if s then -1 else 1)) := by
  rcases Nat.eq_zero_or_pos n with rfl | h
  · exact Spec.of_run hG Tryz.func109 (ro := [1]) (m := 30) [.call (mag_spec hG hs hn)] (by kernel_rfl)
  · rw [if_neg (by omega)]
    cases s with
    | false => exact Spec.of_run hG Tryz.func109 (ro := [1]) (m := 30) [.call (mag_spec hG hs hn), .eq 7 (eqB (words_ne h))] (by kernel_rfl)
    | true => exact Spec.of_run hG Tryz.func109 (ro := [1]) (m := 30) [.call (mag_spec hG hs hn), .eq 7 (eqB (words_ne h))] (by kernel_rfl)
theorem Neg_wv (hG : Steady G) {s : Bool} {n : Nat} (hs : s = true → 0 < n) (hn : (words n).length ≤ 2 ^ 36) : Spec Tryz.prog G 63 [wv s n] (wv (!s && decide (0 < n)) n) := by
  cases s with
  | false => exact Spec.of_run hG Tryz.func63 (ro := [1]) (m := 30) [.call (neg_spec hG hs hn), .call (mag_spec hG hs hn), .call (whole_spec hG true hn)] (by kernel_rfl)
  | true => exact Spec.of_run hG Tryz.func63 (ro := [1]) (m := 30) [.call (neg_spec hG hs hn), .call (mag_spec hG hs hn), .call (whole_spec hG false hn)] (by kernel_rfl)
theorem times_words (hG : Steady G) {a b : Nat} (ha : (words a).length ≤ 2 ^ 36) (hb : (words b).length ≤ 2 ^ 36) : Spec Tryz.prog G 136 [rowW (words a), rowW (words b)] (rowW (words (a * b))) := by
  have := times_spec (G := G) hG (dig_words a) (dig_words b) ha hb
  rwa [val_words, val_words] at this
theorem plus_words (hG : Steady G) {a b : Nat} (ha : (words a).length ≤ 2 ^ 36) (hb : (words b).length ≤ 2 ^ 36) : Spec Tryz.prog G 126 [rowW (words a), rowW (words b)] (rowW (words (a + b))) := by
  have := plus_spec (G := G) hG (dig_words a) (dig_words b) ha hb
  rwa [val_words, val_words] at this
theorem less_words (hG : Steady G) {a b : Nat} (ha : (words a).length ≤ 2 ^ 36) (h : b ≤ a) : Spec Tryz.prog G 128 [rowW (words a), rowW (words b)] (rowW (words (a - b))) := by
  have := less_spec (G := G) hG (dig_words a) (dig_words b) (by rw [val_words, val_words]; exact h) ha
  rwa [val_words, val_words] at this
theorem len_mul {a b : Nat} : (words (a * b)).length ≤ (words a).length + (words b).length := by
  rw [len_le_iff, BP_add]
  have h1 := (len_le_iff a _).1 (Nat.le_refl _)
  have h2 := (len_le_iff b _).1 (Nat.le_refl _)
  rcases Nat.eq_zero_or_pos b with rfl | hb
  · rw [Nat.mul_zero]; exact Nat.mul_pos (BP_pos _) (BP_pos _)
  · exact Nat.lt_of_lt_of_le (Nat.mul_lt_mul_of_pos_right h1 hb) (Nat.mul_le_mul_left _ (Nat.le_of_lt h2))
theorem len_mono {a b : Nat} (h : a ≤ b) : (words a).length ≤ (words b).length := (len_le_iff a _).2 (Nat.lt_of_le_of_lt h ((len_le_iff b _).1 (Nat.le_refl _)))
theorem len_add {a b : Nat} : (words (a + b)).length ≤ max (words a).length (words b).length + 1 := by
  rw [len_le_iff, BP_succ]
  have h1 := (len_le_iff a _).1 (Nat.le_max_left (words a).length (words b).length)
  have h2 := (len_le_iff b _).1 (Nat.le_max_right (words a).length (words b).length)
  omega
theorem Mul_wv (hG : Steady G) {s t : Bool} {m n : Nat} (hs : s = true → 0 < m) (ht : t = true → 0 < n) (hm : Sz m) (hn : Sz n) :
    Spec Tryz.prog G 68 [wv s m, wv t n] (wv (Bool.xor s t && decide (0 < m * n)) (m * n)) := by
  have h30 : (2:Nat) ^ 30 = 1073741824 := by decide
  have h36 : (2:Nat) ^ 36 = 68719476736 := by decide
  have hl : (words (m * n)).length ≤ 2 ^ 36 := by
    have := len_mul (a := m) (b := n)
    unfold Sz at hm hn; omega
  have hw := whole_spec (G := G) hG (Bool.xor s t) hl
  cases s <;> cases t <;>
    exact Spec.of_run hG Tryz.func68 (ro := [2, 3]) (m := 30)
      [.call (neg_spec hG hs hm.le36), .call (neg_spec hG ht hn.le36), .call (mag_spec hG hs hm.le36), .call (mag_spec hG ht hn.le36), .call (times_words hG hm.le36 hn.le36), .call hw] (by kernel_rfl)
theorem cmp_ge0 {a b : Nat} (h : b ≤ a) : decide (cmpI a b ≥ 0) = true := by
  unfold cmpI
  rw [if_neg (by omega)]
  split <;> rfl
theorem cmp_lt0 {a b : Nat} (h : a < b) : decide (cmpI a b ≥ 0) = false := by
  unfold cmpI
  rw [if_pos h]; rfl
/-- A sum: where the signs are equal. -/
theorem Add_same (hG : Steady G) (s : Bool) {m n : Nat} (hs : s = true → 0 < m) (ht : s = true → 0 < n) (hm : Sz m) (hn : Sz n) :
    Spec Tryz.prog G 58 [wv s m, wv s n] (wv (s && decide (0 < m + n)) (m + n)) := by
  have h30 : (2:Nat) ^ 30 = 1073741824 := by decide
  have h36 : (2:Nat) ^ 36 = 68719476736 := by decide
  have hl : (words (m + n)).length ≤ 2 ^ 36 := by
    have := len_add (a := m) (b := n)
    unfold Sz at hm hn; omega
  have hw := whole_spec (G := G) hG s hl
  cases s <;>
    exact Spec.of_run hG Tryz.func58 (ro := [2, 3]) (m := 30)
      [.call (mag_spec hG hs hm.le36), .call (mag_spec hG ht hn.le36), .call (neg_spec hG hs hm.le36), .call (neg_spec hG ht hn.le36), .call (neg_spec hG hs hm.le36), .call (plus_words hG hm.le36 hn.le36), .call hw] (by kernel_rfl)
/-- A sum: where the first one is at least as big. -/
theorem Add_big (hG : Steady G) (s : Bool) {m n : Nat} (hs : s = true → 0 < m) (ht : (!s) = true → 0 < n) (hm : Sz m) (hn : Sz n) (h : n ≤ m) :
    Spec Tryz.prog G 58 [wv s m, wv (!s) n] (wv (s && decide (0 < m - n)) (m - n)) := by
  have hl : (words (m - n)).length ≤ 2 ^ 36 := Nat.le_trans (len_mono (Nat.sub_le _ _)) hm.le36
  have hw := whole_spec (G := G) hG s hl
  cases s <;>
    exact Spec.of_run hG Tryz.func58 (ro := [2, 3]) (m := 30)
      [.call (mag_spec hG hs hm.le36), .call (mag_spec hG ht hn.le36), .call (neg_spec hG hs hm.le36), .call (neg_spec hG ht hn.le36), .call (compare_spec hG m n hm.le36 hn.le36), .eq 27 (eqB (cmp_ge0 h)),
       .call (neg_spec hG hs hm.le36), .call (less_words hG hm.le36 h), .call hw] (by kernel_rfl)
/-- A sum: where the second one is bigger. -/
theorem Add_small (hG : Steady G) (s : Bool) {m n : Nat} (hs : s = true → 0 < m) (ht : (!s) = true → 0 < n) (hm : Sz m) (hn : Sz n) (h : m < n) :
    Spec Tryz.prog G 58 [wv s m, wv (!s) n] (wv (!s && decide (0 < n - m)) (n - m)) := by
  have hl : (words (n - m)).length ≤ 2 ^ 36 := Nat.le_trans (len_mono (Nat.sub_le _ _)) hn.le36
  have hw := whole_spec (G := G) hG (!s) hl
  cases s <;>
    exact Spec.of_run hG Tryz.func58 (ro := [2, 3]) (m := 30)
      [.call (mag_spec hG hs hm.le36), .call (mag_spec hG ht hn.le36), .call (neg_spec hG hs hm.le36), .call (neg_spec hG ht hn.le36), .call (compare_spec hG m n hm.le36 hn.le36), .eq 27 (eqB (cmp_lt0 h)),
       .call (neg_spec hG ht hn.le36), .call (less_words hG hn.le36 (Nat.le_of_lt h)), .call hw] (by kernel_rfl)

/-! ### By integers. -/
theorem W_mk' (s : Bool) (n : Nat) : W (mkI s n) = wv (s && decide (0 < n)) n := by
  rcases Nat.eq_zero_or_pos n with rfl | h
  · have : mkI s 0 = mkI false 0 := by cases s <;> rfl
    rw [this, W_mk (by simp)]; simp
  · rw [decide_eq_true h, Bool.and_true]; exact W_mk fun _ => h
/-- Few enough words. -/
def SzI (i : Int) : Prop := Sz i.natAbs
theorem Add_spec (hG : Steady G) {i j : Int} (hi : SzI i) (hj : SzI j) : Spec Tryz.prog G 58 [W i, W j] (W (i + j)) := by
  obtain ⟨s, m, rfl, hs, hm⟩ := mk_of i
  obtain ⟨t, n, rfl, ht, hn⟩ := mk_of j
  unfold SzI at hi hj
  rw [← hm] at hi
  rw [← hn] at hj
  rw [W_mk hs, W_mk ht]
  by_cases hst : t = s
  · subst hst
    have e : mkI t m + mkI t n = mkI t (m + n) := by unfold mkI; cases t <;> simp; omega
    rw [e, W_mk']
    exact Add_same hG t hs ht hi hj
  · have : t = !s := by cases s <;> cases t <;> first | rfl | exact absurd rfl hst
    subst this
    rcases Nat.lt_or_ge m n with h | h
    · have e : mkI s m + mkI (!s) n = mkI (!s) (n - m) := by unfold mkI; cases s <;> simp <;> omega
      rw [e, W_mk']
      exact Add_small hG s hs ht hi hj h
    · have e : mkI s m + mkI (!s) n = mkI s (m - n) := by unfold mkI; cases s <;> simp <;> omega
      rw [e, W_mk']
      exact Add_big hG s hs ht hi hj h
theorem Mul_spec (hG : Steady G) {i j : Int} (hi : SzI i) (hj : SzI j) : Spec Tryz.prog G 68 [W i, W j] (W (i * j)) := by
  obtain ⟨s, m, rfl, hs, hm⟩ := mk_of i
  obtain ⟨t, n, rfl, ht, hn⟩ := mk_of j
  unfold SzI at hi hj
  rw [← hm] at hi
  rw [← hn] at hj
  rw [W_mk hs, W_mk ht]
  have e : mkI s m * mkI t n = mkI (Bool.xor s t) (m * n) := by unfold mkI; cases s <;> cases t <;> simp [Int.mul_neg, Int.neg_mul]
  rw [e, W_mk']
  exact Mul_wv hG hs ht hi hj
theorem Neg_spec (hG : Steady G) {i : Int} (hi : SzI i) : Spec Tryz.prog G 63 [W i] (W (-i)) := by
  obtain ⟨s, m, rfl, hs, hm⟩ := mk_of i
  unfold SzI at hi
  rw [← hm] at hi
  rw [W_mk hs]
  have e : -mkI s m = mkI (!s) m := by unfold mkI; cases s <;> simp
  rw [e, W_mk']
  exact Neg_wv hG hs hi.le36
theorem Sign_spec (hG : Steady G) {i : Int} (hi : SzI i) : Spec Tryz.prog G 109 [W i] (int i.sign) := by
  obtain ⟨s, m, rfl, hs, hm⟩ := mk_of i
  unfold SzI at hi
  rw [← hm] at hi
  rw [W_mk hs]
  have := sign_wv (G := G) hG hs hi.le36
  have e : (mkI s m).sign = if m = 0 then 0 else if s then -1 else 1 := by
    cases s with
    | false =>
      show ((m : Int)).sign = if m = 0 then 0 else if false = true then -1 else 1
      by_cases h : m = 0
      · subst h; rfl
      · rw [if_neg h, if_neg (by simp)]; exact Int.sign_eq_one_of_pos (by omega)
    | true =>
      have := hs rfl
      show (-(m : Int)).sign = if m = 0 then 0 else if true = true then -1 else 1
      rw [if_neg (show ¬ m = 0 by omega), if_pos rfl]; exact Int.sign_eq_neg_one_of_neg (by omega)
  rw [e]; exact this
end Lw

namespace Lw
open Go Go.RowKit Go.Proofs

variable {G : World → Prop}

/-! ### Cmp -/
def cmpZ (i j : Int) : Int := if i < j then -1 else if j < i then 1 else 0
theorem sign_cases (i : Int) : (i < 0 ∧ i.sign = -1) ∨ (i = 0 ∧ i.sign = 0) ∨ (0 < i ∧ i.sign = 1) := by
  rcases Int.lt_trichotomy i 0 with a | a | a
  · exact .inl ⟨a, Int.sign_eq_neg_one_of_neg a⟩
  · subst a; exact .inr (.inl ⟨rfl, rfl⟩)
  · exact .inr (.inr ⟨a, Int.sign_eq_one_of_pos a⟩)
theorem sign_lt {i j : Int} (h : i.sign < j.sign) : i < j := by
  rcases sign_cases i with ⟨a, b⟩ | ⟨a, b⟩ | ⟨a, b⟩ <;> rcases sign_cases j with ⟨c, d⟩ | ⟨c, d⟩ | ⟨c, d⟩ <;> omega
theorem unneg {x : Int} (h : -2 ≤ x) (h' : x ≤ 2) : IntKind.wrap .i64 (0 - x) = -x := by rw [wrapS (by omega) (by omega)]; omega
theorem cmpI_range (m n : Nat) : -2 ≤ cmpI m n ∧ cmpI m n ≤ 2 := by
  unfold cmpI
  split
  · omega
  · split <;> omega
theorem Cmp_spec (hG : Steady G) {i j : Int} (hi : SzI i) (hj : SzI j) : Spec Tryz.prog G 67 [W i, W j] (int (cmpZ i j)) := by
  have si := Sign_spec (G := G) hG hi
  have sj := Sign_spec (G := G) hG hj
  by_cases h : i.sign = j.sign
  · obtain ⟨s, m, rfl, hs, hm⟩ := mk_of i
    obtain ⟨t, n, rfl, ht, hn⟩ := mk_of j
    unfold SzI at hi hj
    rw [← hm] at hi
    rw [← hn] at hj
    rw [W_mk hs] at si ⊢
    rw [W_mk ht] at sj ⊢
    have c1 := mag_spec (G := G) hG hs hi.le36
    have c2 := mag_spec (G := G) hG ht hj.le36
    have c3 := compare_spec (G := G) hG m n hi.le36 hj.le36
    have c4 := neg_spec (G := G) hG hs hi.le36
    obtain ⟨r1, r2⟩ := cmpI_range m n
    cases s with
    | false =>
      have ht' : t = false := by
        cases t with
        | false => rfl
        | true =>
          exfalso
          have h1 : (mkI true n).sign = -1 := Int.sign_eq_neg_one_of_neg (by have := ht rfl; show -(n : Int) < 0; omega)
          have h2 : 0 ≤ (mkI false m).sign := by show 0 ≤ ((m : Int)).sign; rcases sign_cases (m : Int) with ⟨a, b⟩ | ⟨a, b⟩ | ⟨a, b⟩ <;> omega
          omega
      subst ht'
      have e : cmpZ (mkI false m) (mkI false n) = cmpI m n := by
        show (if (m : Int) < (n : Int) then (-1 : Int) else if (n : Int) < m then 1 else 0) = _
        unfold cmpI
        by_cases q1 : m < n
        · rw [if_pos q1, if_pos (by omega)]
        · rw [if_neg q1, if_neg (by omega)]
          by_cases q2 : n < m
          · rw [if_pos q2, if_pos (by omega)]
          · rw [if_neg q2, if_neg (by omega)]
      rw [e]
      exact Spec.of_run hG Tryz.func67 (ro := [2, 3]) (m := 30)
        [.call si, .call sj, .eq 14 (eqB (x := (mkI false m).sign != (mkI false n).sign) (y := false) (by rw [h]; simp)), .call c1, .call c2, .call c3, .call c4] (by kernel_rfl)
    | true =>
      have ht' : t = true := by
        cases t with
        | true => rfl
        | false =>
          exfalso
          have h1 : (mkI true m).sign = -1 := Int.sign_eq_neg_one_of_neg (by have := hs rfl; show -(m : Int) < 0; omega)
          have h2 : 0 ≤ (mkI false n).sign := by show 0 ≤ ((n : Int)).sign; rcases sign_cases (n : Int) with ⟨a, b⟩ | ⟨a, b⟩ | ⟨a, b⟩ <;> omega
          omega
      subst ht'
      have e : cmpZ (mkI true m) (mkI true n) = -cmpI m n := by
        show (if -(m : Int) < -(n : Int) then (-1 : Int) else if -(n : Int) < -(m : Int) then 1 else 0) = _
        unfold cmpI
        by_cases q1 : m < n
        · rw [if_pos q1, if_neg (by omega), if_pos (by omega)]; rfl
        · rw [if_neg q1]
          by_cases q2 : n < m
          · rw [if_pos q2, if_pos (by omega)]
          · rw [if_neg q2, if_neg (by omega), if_neg (by omega)]; rfl
      rw [e]
      exact Spec.of_run hG Tryz.func67 (ro := [2, 3]) (m := 30)
        [.call si, .call sj, .eq 14 (eqB (x := (mkI true m).sign != (mkI true n).sign) (y := false) (by rw [h]; simp)), .call c1, .call c2, .call c3, .call c4, .eq 26 (eqS (unneg r1 r2))] (by kernel_rfl)
  · by_cases h2 : i.sign < j.sign
    · have e : cmpZ i j = -1 := by unfold cmpZ; rw [if_pos (sign_lt h2)]
      rw [e]
      exact Spec.of_run hG Tryz.func67 (ro := [2, 3]) (m := 30)
        [.call si, .call sj, .eq 14 (eqB (x := i.sign != j.sign) (y := true) (by simpa using h)), .eq 17 (eqB (x := decide (i.sign < j.sign)) (y := true) (by simpa using h2))] (by kernel_rfl)
    · have h3 := sign_lt (i := j) (j := i) (by omega)
      have e : cmpZ i j = 1 := by unfold cmpZ; rw [if_neg (by omega), if_pos h3]
      rw [e]
      exact Spec.of_run hG Tryz.func67 (ro := [2, 3]) (m := 30)
        [.call si, .call sj, .eq 14 (eqB (x := i.sign != j.sign) (y := true) (by simpa using h)), .eq 17 (eqB (x := decide (i.sign < j.sign)) (y := false) (by simpa using h2))] (by kernel_rfl)

/-! ### Of -/
theorem two_words {x : Nat} : val [x % 4294967296, x / 4294967296] = x := by simp only [val]; omega
theorem two_dig {x : Nat} (h : x < 18446744073709551616) : Dig [x % 4294967296, x / 4294967296] := by
  intro y hy
  simp only [List.mem_cons, List.not_mem_nil, or_false] at hy
  omega
theorem Of_neg (hG : Steady G) {x : Nat} (h0 : 0 < x) (h : x ≤ 9223372036854775808) : Spec Tryz.prog G 57 [int (-(x : Int))] (W (-(x : Int))) := by
  have hw := whole_any (G := G) hG true (l := [x % 4294967296, x / 4294967296]) (two_dig (by omega)) (by simp)
  rw [two_words] at hw
  have e := W_mk' true x
  have e2 : mkI true x = -(x : Int) := rfl
  rw [e2] at e
  rw [e]
  have c1 : IntKind.wrap .u64 (-(x : Int)) = Int.ofNat (18446744073709551616 - x) := by rw [wrap64i]; simp only [Int.ofNat_eq_natCast]; omega
  have c2 : IntKind.wrap .u64 (0 - Int.ofNat (18446744073709551616 - x)) = Int.ofNat x := by rw [wrap64i]; simp only [Int.ofNat_eq_natCast]; omega
  have lt : decide (-(x : Int) < 0) = true := by simp; omega
  exact Spec.of_run hG Tryz.func57 (ro := []) (m := 30)
    [.eq 5 (eq64 c1), .eq 7 (eqB lt), .eq 9 (eq64 c2), .eq 11 (eqB lt), .eq 13 (eq32 (conv32 x)), .eq 15 (eq64 (shr32 x)), .eq 16 (eq32 (x := IntKind.wrap .u32 (Int.ofNat (x / 4294967296))) (y := Int.ofNat (x / 4294967296)) (by rw [conv32, Nat.mod_eq_of_lt (by omega)])), .call hw] (by kernel_rfl)
theorem Of_pos (hG : Steady G) {x : Nat} (h : x < 9223372036854775808) : Spec Tryz.prog G 57 [int (x : Int)] (W (x : Int)) := by
  have hw := whole_any (G := G) hG false (l := [x % 4294967296, x / 4294967296]) (two_dig (by omega)) (by simp)
  rw [two_words] at hw
  have e := W_mk' false x
  have e2 : mkI false x = (x : Int) := rfl
  rw [e2] at e
  rw [e]
  have lt : decide ((x : Int) < 0) = false := by simp
  exact Spec.of_run hG Tryz.func57 (ro := []) (m := 30)
    [.eq 5 (eq64 (x := IntKind.wrap .u64 (x : Int)) (y := Int.ofNat x) (wrap64 (by omega))), .eq 7 (eqB lt), .eq 11 (eqB lt), .eq 13 (eq32 (conv32 x)), .eq 15 (eq64 (shr32 x)),
     .eq 16 (eq32 (x := IntKind.wrap .u32 (Int.ofNat (x / 4294967296))) (y := Int.ofNat (x / 4294967296)) (by rw [conv32, Nat.mod_eq_of_lt (by omega)])), .call hw] (by kernel_rfl)
theorem Of_spec (hG : Steady G) {i : Int} (h : -9223372036854775808 ≤ i) (h' : i < 9223372036854775808) : Spec Tryz.prog G 57 [int i] (W i) := by
  by_cases hi : i < 0
  · obtain ⟨x, rfl⟩ : ∃ x : Nat, i = -(x : Int) := ⟨i.natAbs, by omega⟩
    exact Of_neg hG (by omega) (by omega)
  · obtain ⟨x, rfl⟩ : ∃ x : Nat, i = (x : Int) := ⟨i.natAbs, by omega⟩
    exact Of_pos hG (by omega)

/-! ### Div -/
theorem divide_words (hG : Steady G) {a b : Nat} (hb0 : 0 < b) (ha : (words a).length ≤ 2 ^ 36) (hb : (words b).length ≤ 2 ^ 36) :
    Spec Tryz.prog G 171 [rowW (words a), rowW (words b)] (.tup [rowW (words (a / b)), rowW (words (a % b))]) := divide_spec hG hb0 ha hb
theorem plus_one (hG : Steady G) {a : Nat} (ha : (words a).length ≤ 2 ^ 36) : Spec Tryz.prog G 126 [rowW (words a), rowW [1]] (rowW (words (a + 1))) := by
  have := plus_spec (G := G) hG (dig_words a) (m := [1]) (fun y hy => by simp at hy; omega) ha (by simp)
  rw [val_words] at this
  exact this
theorem Div_even (hG : Steady G) {s t : Bool} {m n : Nat} (hs : s = true → 0 < m) (ht : t = true → 0 < n) (hn0 : 0 < n) (hm : Sz m) (hn : Sz n) (hr : s = false ∨ m % n = 0) :
    Spec Tryz.prog G 133 [wv s m, wv t n] (.tup [wv (Bool.xor s t && decide (0 < m / n)) (m / n), wv (false && decide (0 < m % n)) (m % n), .lit .nilIface]) := by
  have hq : (words (m / n)).length ≤ 2 ^ 36 := Nat.le_trans (len_mono (Nat.div_le_self _ _)) hm.le36
  have hr' : (words (m % n)).length ≤ 2 ^ 36 := Nat.le_trans (len_mono (Nat.mod_le _ _)) hm.le36
  have hw := whole_spec (G := G) hG (Bool.xor s t) hq
  have hw2 := whole_spec (G := G) hG false hr'
  cases s with
  | false =>
    cases t <;>
      exact Spec.of_run hG Tryz.func133 (ro := [2, 3]) (m := 30)
        [.call (mag_spec hG ht hn.le36), .eq 14 (eqB (words_ne hn0)), .call (mag_spec hG hs hm.le36), .call (divide_words hG hn0 hm.le36 hn.le36), .call (neg_spec hG hs hm.le36),
         .call (neg_spec hG hs hm.le36), .call (neg_spec hG ht hn.le36), .call hw, .call hw2] (by kernel_rfl)
  | true =>
    have h0 : m % n = 0 := by rcases hr with h | h; cases h; exact h
    have hl : decide (Int.ofNat (words (m % n)).length > 0) = false := by rw [len_pos_dec, h0]; rfl
    cases t <;>
      exact Spec.of_run hG Tryz.func133 (ro := [2, 3]) (m := 30)
        [.call (mag_spec hG ht hn.le36), .eq 14 (eqB (words_ne hn0)), .call (mag_spec hG hs hm.le36), .call (divide_words hG hn0 hm.le36 hn.le36), .call (neg_spec hG hs hm.le36), .eq 30 (eqB hl),
         .call (neg_spec hG hs hm.le36), .call (neg_spec hG ht hn.le36), .call hw, .call hw2] (by kernel_rfl)
theorem Div_odd (hG : Steady G) {t : Bool} {m n : Nat} (hs : 0 < m) (ht : t = true → 0 < n) (hn0 : 0 < n) (hm : Sz m) (hn : Sz n) (hr : 0 < m % n) :
    Spec Tryz.prog G 133 [wv true m, wv t n] (.tup [wv (Bool.xor true t && decide (0 < m / n + 1)) (m / n + 1), wv (false && decide (0 < n - m % n)) (n - m % n), .lit .nilIface]) := by
  have h30 : (2:Nat) ^ 30 = 1073741824 := by decide
  have h36 : (2:Nat) ^ 36 = 68719476736 := by decide
  have hq : (words (m / n)).length ≤ 2 ^ 36 := Nat.le_trans (len_mono (Nat.div_le_self _ _)) hm.le36
  have hq1 : (words (m / n + 1)).length ≤ 2 ^ 36 := by
    have h1 : m / n + 1 ≤ m + 1 := by have := Nat.div_le_self m n; omega
    have h2 := len_mono h1
    have h3 := len_add (a := m) (b := 1)
    have h4 : (words 1).length = 1 := rfl
    unfold Sz at hm
    omega
  have hr' : (words (m % n)).length ≤ 2 ^ 36 := Nat.le_trans (len_mono (Nat.mod_le _ _)) hm.le36
  have hr2 : (words (n - m % n)).length ≤ 2 ^ 36 := Nat.le_trans (len_mono (Nat.sub_le _ _)) hn.le36
  have hw := whole_spec (G := G) hG (Bool.xor true t) hq1
  have hw2 := whole_spec (G := G) hG false hr2
  have hl : decide (Int.ofNat (words (m % n)).length > 0) = true := by rw [len_pos_dec]; exact decide_eq_true hr
  have hmn : m % n ≤ n := Nat.le_of_lt (Nat.mod_lt _ hn0)
  cases t <;>
    exact Spec.of_run hG Tryz.func133 (ro := [2, 3]) (m := 30)
      [.call (mag_spec hG ht hn.le36), .eq 14 (eqB (words_ne hn0)), .call (mag_spec (s := true) hG (fun _ => hs) hm.le36), .call (divide_words hG hn0 hm.le36 hn.le36), .call (neg_spec (s := true) hG (fun _ => hs) hm.le36), .eq 30 (eqB hl),
       .call (plus_one hG hq), .call (less_words hG hn.le36 hmn), .call (neg_spec (s := true) hG (fun _ => hs) hm.le36), .call (neg_spec hG ht hn.le36), .call hw, .call hw2] (by kernel_rfl)
theorem W_nat (n : Nat) : W (n : Int) = wv (false && decide (0 < n)) n := W_mk' false n
theorem div_neg' (a : Int) (n : Nat) : a / -(n : Int) = -(a / n) ∧ a % -(n : Int) = a % n := ⟨Int.ediv_neg _ _, Int.emod_neg _ _⟩
theorem Div_spec (hG : Steady G) {i j : Int} (hi : SzI i) (hj : SzI j) (hj0 : j ≠ 0) : Spec Tryz.prog G 133 [W i, W j] (.tup [W (i / j), W (i % j), .lit .nilIface]) := by
  obtain ⟨s, m, rfl, hs, hm⟩ := mk_of i
  obtain ⟨t, n, rfl, ht, hn⟩ := mk_of j
  unfold SzI at hi hj
  rw [← hm] at hi
  rw [← hn] at hj
  have hn0 : 0 < n := by
    rcases Nat.eq_zero_or_pos n with h | h
    · subst h; exact absurd (by cases t <;> rfl) hj0
    · exact h
  rw [W_mk hs, W_mk ht]
  have hdm := Nat.div_add_mod m n
  have hml := Nat.mod_lt m hn0
  by_cases hc : s = false ∨ m % n = 0
  · have e : mkI s m / mkI t n = mkI (Bool.xor s t) (m / n) ∧ mkI s m % mkI t n = ((m % n : Nat) : Int) := by
      have base : mkI s m / (n : Int) = mkI s (m / n) ∧ mkI s m % (n : Int) = ((m % n : Nat) : Int) := by
        rw [Int.ediv_emod_unique (by omega)]
        cases s with
        | false => exact ⟨by show ((m % n : Nat) : Int) + (n : Int) * ((m / n : Nat) : Int) = (m : Int); rw [← Int.natCast_mul]; omega, by omega, by omega⟩
        | true =>
          have h0 : m % n = 0 := by rcases hc with h | h; cases h; exact h
          refine ⟨?_, by omega, by omega⟩
          show ((m % n : Nat) : Int) + (n : Int) * (-((m / n : Nat) : Int)) = -(m : Int)
          rw [Int.mul_neg, ← Int.natCast_mul]; omega
      cases t with
      | false =>
        have : Bool.xor s false = s := by cases s <;> rfl
        rw [this]; exact base
      | true =>
        obtain ⟨b1, b2⟩ := div_neg' (mkI s m) n
        refine ⟨?_, by show mkI s m % -(n : Int) = _; rw [b2]; exact base.2⟩
        show mkI s m / -(n : Int) = _
        rw [b1, base.1]
        cases s <;> simp [mkI]
    rw [e.1, e.2, W_mk', W_nat]
    exact Div_even hG hs ht hn0 hi hj hc
  · have hst : s = true := by cases s with | true => rfl | false => exact absurd (.inl rfl) hc
    subst hst
    have hr : 0 < m % n := by
      rcases Nat.eq_zero_or_pos (m % n) with h | h
      · exact absurd (.inr h) hc
      · exact h
    have e : mkI true m / mkI t n = mkI (Bool.xor true t) (m / n + 1) ∧ mkI true m % mkI t n = ((n - m % n : Nat) : Int) := by
      have base : mkI true m / (n : Int) = mkI true (m / n + 1) ∧ mkI true m % (n : Int) = ((n - m % n : Nat) : Int) := by
        rw [Int.ediv_emod_unique (by omega)]
        refine ⟨?_, by omega, by omega⟩
        show ((n - m % n : Nat) : Int) + (n : Int) * (-((m / n + 1 : Nat) : Int)) = -(m : Int)
        rw [Int.mul_neg, ← Int.natCast_mul, Nat.mul_add, Nat.mul_one]; omega
      cases t with
      | false => exact base
      | true =>
        obtain ⟨b1, b2⟩ := div_neg' (mkI true m) n
        refine ⟨?_, by show mkI true m % -(n : Int) = _; rw [b2]; exact base.2⟩
        show mkI true m / -(n : Int) = _
        rw [b1, base.1]
        simp [mkI]
    rw [e.1, e.2, W_mk', W_nat]
    exact Div_odd hG (hs rfl) ht hn0 hi hj hr
end Lw

namespace Lw

/-! ### Roots -/
theorem exists_root (n : Nat) : ∃ r, r * r ≤ n ∧ n < (r + 1) * (r + 1) := by
  induction n with
  | zero => exact ⟨0, by omega, by omega⟩
  | succ n ih =>
    obtain ⟨r, h1, h2⟩ := ih
    by_cases h : (r + 1) * (r + 1) ≤ n + 1
    · refine ⟨r + 1, h, ?_⟩
      have : (r + 1 + 1) * (r + 1 + 1) = (r + 1) * (r + 1) + 2 * (r + 1) + 1 := by grind
      omega
    · exact ⟨r, by omega, by omega⟩
noncomputable def isq (n : Nat) : Nat := Classical.choose (exists_root n)
theorem isq_le (n : Nat) : isq n * isq n ≤ n := (Classical.choose_spec (exists_root n)).1
theorem isq_lt (n : Nat) : n < (isq n + 1) * (isq n + 1) := (Classical.choose_spec (exists_root n)).2
theorem sq_lt {a b : Nat} (h : a * a < b * b) : a < b := by
  rcases Nat.lt_or_ge a b with h1 | h1
  · exact h1
  · have := Nat.mul_le_mul h1 h1; omega
theorem isq_unique {n r : Nat} (h1 : r * r ≤ n) (h2 : n < (r + 1) * (r + 1)) : isq n = r := by
  have a := isq_le n
  have b := isq_lt n
  have c : r < isq n + 1 := sq_lt (by omega)
  have d : isq n < r + 1 := sq_lt (by omega)
  omega
theorem isq_zero : isq 0 = 0 := isq_unique (by omega) (by omega)
theorem isq_le_self (n : Nat) : isq n ≤ n := by
  have h := isq_le n
  rcases Nat.eq_zero_or_pos (isq n) with e | e
  · omega
  · have := Nat.le_mul_of_pos_left (isq n) e; omega
theorem isq_pos {n : Nat} (h : 0 < n) : 0 < isq n := by
  have := isq_lt n
  rcases Nat.eq_zero_or_pos (isq n) with e | e
  · rw [e] at this; omega
  · exact e
theorem mean {a b : Nat} : 4 * (a * b) ≤ (a + b) * (a + b) := by
  rcases Nat.le_total a b with h | h
  · obtain ⟨d, rfl⟩ := Nat.exists_eq_add_of_le h
    have : (a + (a + d)) * (a + (a + d)) = 4 * (a * (a + d)) + d * d := by grind
    omega
  · obtain ⟨d, rfl⟩ := Nat.exists_eq_add_of_le h
    have : (b + d + b) * (b + d + b) = 4 * ((b + d) * b) + d * d := by grind
    omega
theorem newton_ge {n x : Nat} (hx : 0 < x) : isq n ≤ (x + n / x) / 2 := by
  have h1 := isq_le n
  have h2 : n < x * (n / x + 1) := by rw [Nat.mul_add, Nat.mul_one]; have := Nat.div_add_mod n x; have := Nat.mod_lt n hx; omega
  generalize n / x = q at *
  generalize isq n = r at *
  rcases Nat.lt_or_ge ((x + q) / 2) r with h | h
  · exfalso
    have h3 : x + (q + 1) ≤ 2 * r := by omega
    have h4 := mean (a := x) (b := q + 1)
    have h5 := Nat.mul_le_mul h3 h3
    have h6 : 2 * r * (2 * r) = 4 * (r * r) := by grind
    omega
  · exact h
theorem newton_lt {n x : Nat} (h : isq n < x) : (x + n / x) / 2 < x := by
  have h1 := isq_lt n
  have h2 : (isq n + 1) * (isq n + 1) ≤ x * x := Nat.mul_le_mul h h
  have h3 : n / x < x := Nat.div_lt_of_lt_mul (by omega)
  omega
theorem two_pow_sq (k : Nat) : 2 ^ k * 2 ^ k = 2 ^ (2 * k) := by rw [← Nat.pow_add]; congr 1; omega
theorem start_over {n k : Nat} (h : bl n ≤ 2 * k) : isq n < 2 ^ k := by
  refine sq_lt ?_
  rw [two_pow_sq]
  have h1 := isq_le n
  have h2 := bl_lt n
  have h3 : 2 ^ bl n ≤ 2 ^ (2 * k) := Nat.pow_le_pow_right (by omega) h
  omega

/-! ### Bits of quotients -/
theorem div_two_pow_succ (a i : Nat) : a / 2 ^ i = 2 * (a / 2 ^ (i + 1)) + a / 2 ^ i % 2 := by
  rw [Nat.pow_succ, ← Nat.div_div_eq_div_mul]; omega
theorem bit_step {x b c : Nat} (hb : 0 < b) (hc : c < 2) : (2 * x + c) / b = 2 * (x / b) + (if b ≤ 2 * (x % b) + c then 1 else 0) ∧ (2 * x + c) % b = if b ≤ 2 * (x % b) + c then 2 * (x % b) + c - b else 2 * (x % b) + c := by
  have h1 := Nat.div_add_mod x b
  have h2 := Nat.mod_lt x hb
  have h3 : 2 * x + c = b * (2 * (x / b)) + (2 * (x % b) + c) := by
    have : b * (2 * (x / b)) = 2 * (b * (x / b)) := by grind
    omega
  split
  · rename_i h
    have h4 : 2 * x + c = b * (2 * (x / b) + 1) + (2 * (x % b) + c - b) := by rw [Nat.mul_add, Nat.mul_one]; omega
    constructor
    · have h5 : (2 * (x % b) + c - b) / b = 0 := Nat.div_eq_of_lt (by omega)
      rw [h4, Nat.mul_add_div hb, h5]
    · have h5 : (2 * (x % b) + c - b) % b = 2 * (x % b) + c - b := Nat.mod_eq_of_lt (by omega)
      rw [h4, Nat.mul_add_mod, h5]
  · rename_i h
    constructor
    · have h5 : (2 * (x % b) + c) / b = 0 := Nat.div_eq_of_lt (by omega)
      rw [h3, Nat.mul_add_div hb, h5]
    · have h5 : (2 * (x % b) + c) % b = 2 * (x % b) + c := Nat.mod_eq_of_lt (by omega)
      rw [h3, Nat.mul_add_mod, h5]

/-! ### Greatest common divisors -/
theorem gcd_half {a b : Nat} (h : Nat.gcd (2 * a) b % 2 = 1) : Nat.gcd a b = Nat.gcd (2 * a) b := by
  have hb : b % 2 = 1 := by
    rcases Nat.mod_two_eq_zero_or_one b with e | e
    · have : 2 ∣ Nat.gcd (2 * a) b := Nat.dvd_gcd (Nat.dvd_mul_right _ _) (Nat.dvd_of_mod_eq_zero e)
      omega
    · exact e
  have hc : Nat.Coprime 2 b := by
    unfold Nat.Coprime
    have h1 : Nat.gcd 2 b ∣ 2 := Nat.gcd_dvd_left _ _
    have h2 : Nat.gcd 2 b ∣ b := Nat.gcd_dvd_right _ _
    have h3 : Nat.gcd 2 b ≤ 2 := Nat.le_of_dvd (by omega) h1
    have h4 : Nat.gcd 2 b ≠ 2 := fun e => by rw [e] at h2; omega
    have h5 : Nat.gcd 2 b ≠ 0 := fun e => by rw [e] at h1; omega
    omega
  exact (Nat.Coprime.gcd_mul_left_cancel a hc).symm
theorem gcd_half_r {a b : Nat} (h : Nat.gcd a (2 * b) % 2 = 1) : Nat.gcd a b = Nat.gcd a (2 * b) := by
  rw [Nat.gcd_comm a b, Nat.gcd_comm a (2 * b)]; exact gcd_half (by rw [Nat.gcd_comm]; exact h)
theorem gcd_both (a b : Nat) : Nat.gcd (2 * a) (2 * b) = 2 * Nat.gcd a b := Nat.gcd_mul_left 2 a b
theorem gcd_less {a b : Nat} (h : b ≤ a) : Nat.gcd (a - b) b = Nat.gcd a b := Nat.gcd_sub_self_left h
end Lw

namespace Lw
open Go Go.RowKit Go.Proofs

variable {G : World → Prop}

/-- The number of an error as an error. -/
def errno (k : Int) : D := .lit (.iface 63 (.int .i64 k))
def zeroW : List D := [bool false, rowW []]

/-! ### Gcd -/
def gcdInv (p : Nat × Nat) : St := lay 26 [(4, .ptr 0 0), (5, rowW (words p.1)), (6, rowW (words p.2))] [(0, zeroW)]
theorem gcd_round (hG : Steady G) {p : Nat × Nat} (hp : 0 < p.2) (h1 : (words p.1).length ≤ 2 ^ 36) (h2 : (words p.2).length ≤ 2 ^ 36) :
    Goes Tryz.prog G 0 (loopOf Tryz.f108 0) (gcdInv p) .normal (gcdInv (p.2, p.1 % p.2)) :=
  Goes.of_run hG (ro := []) (m := 30) (lay_len ..)
    [.eq 15 (eqB (x := decide (Int.ofNat (words p.2).length > 0)) (y := true) (by rw [len_pos_dec]; exact decide_eq_true hp)), .call (divide_words hG hp h1 h2)] (by kernel_rfl)
theorem gcd_last (hG : Steady G) (g : Nat) : Goes Tryz.prog G 0 (loopOf Tryz.f108 0) (gcdInv (g, 0)) (.exit 0) (gcdInv (g, 0)) :=
  Goes.of_run hG (ro := []) (m := 30) (lay_len ..) [] (by kernel_rfl)
theorem gcd_loop (hG : Steady G) {a b : Nat} (h1 : (words a).length ≤ 2 ^ 36) (h2 : (words b).length ≤ 2 ^ 36) :
    Abs Tryz.prog G 26 0 (.loop (loopOf Tryz.f108 0)) (lay 26 [(4, .ptr 0 0), (5, rowW (words a)), (6, rowW (words b))] [(0, zeroW)]) (.exit 0) (gcdInv (Nat.gcd a b, 0)) := by
  refine Abs.rounds (fun p : Nat × Nat => Nat.gcd p.1 p.2 = Nat.gcd a b ∧ (words p.1).length ≤ 2 ^ 36 ∧ (words p.2).length ≤ 2 ^ 36) gcdInv (fun p => p.2) (fun p => lay_len _ _ _) (by simp) (fun p hp => ?_) (a, b) ⟨rfl, h1, h2⟩
  obtain ⟨x, y⟩ := p
  obtain ⟨e, q1, q2⟩ := hp
  rcases Nat.eq_zero_or_pos y with h | h
  · right
    subst h
    have : x = Nat.gcd a b := by rw [← e]; exact (Nat.gcd_zero_right x).symm
    subst this
    exact gcd_last hG _
  · left
    refine ⟨(y, x % y), ⟨?_, q2, ?_⟩, Nat.mod_lt _ h, gcd_round hG h q1 q2⟩
    · show Nat.gcd y (x % y) = _
      rw [← e, Nat.gcd_comm x y, Nat.gcd_rec y x, Nat.gcd_comm]
    · exact Nat.le_trans (len_mono (Nat.mod_le _ _)) q1
theorem len_gcd {a b k : Nat} (ha : (words a).length ≤ k) (hb : (words b).length ≤ k) : (words (Nat.gcd a b)).length ≤ k := by
  rcases Nat.eq_zero_or_pos a with h | h
  · subst h; rw [Nat.gcd_zero_left]; exact hb
  · exact Nat.le_trans (len_mono (Nat.gcd_le_left b h)) ha
theorem Gcd_spec (hG : Steady G) {i j : Int} (hi : SzI i) (hj : SzI j) : Spec Tryz.prog G 108 [W i, W j] (W ((Int.gcd i j : Nat) : Int)) := by
  obtain ⟨s, m, rfl, hs, hm⟩ := mk_of i
  obtain ⟨t, n, rfl, ht, hn⟩ := mk_of j
  unfold SzI at hi hj
  rw [← hm] at hi
  rw [← hn] at hj
  rw [W_mk hs, W_mk ht, W_nat]
  have e : Int.gcd (mkI s m) (mkI t n) = Nat.gcd m n := by unfold Int.gcd; rw [← hm, ← hn]
  rw [e]
  exact Spec.of_run hG Tryz.func108 (ro := [2, 3]) (m := 30)
    [.call (mag_spec hG hs hi.le36), .call (mag_spec hG ht hj.le36), .code (gcd_loop hG hi.le36 hj.le36), .call (whole_spec hG false (len_gcd hi.le36 hj.le36))] (by kernel_rfl)

/-! ### Bits -/
theorem bl_words {n : Nat} (h : 0 < n) : bl n = 32 * ((words n).length - 1) + bl ((words n).getD ((words n).length - 1) 0) := by
  obtain ⟨k, hk⟩ : ∃ k, (words n).length = k + 1 := ⟨(words n).length - 1, by
    have : (words n).length ≠ 0 := fun e => by
      have h1 := List.eq_nil_of_length_eq_zero e
      have := val_words n; rw [h1] at this; have h0 : val [] = 0 := rfl; omega
    omega⟩
  have h1 : n < BP (k + 1) := (len_le_iff n _).1 (by omega)
  have h2 : BP k ≤ n := by
    rcases Nat.lt_or_ge n (BP k) with q | q
    · have := (len_le_iff n k).2 q; omega
    · exact q
  rw [hk, Nat.add_sub_cancel, words_getD]
  have hBP : BP k = 2 ^ (32 * k) := by rw [Nat.pow_mul]; rfl
  have h3 : n / BP k % 4294967296 = n / BP k := Nat.mod_eq_of_lt (Nat.div_lt_of_lt_mul (by rw [BP_succ, Nat.mul_comm] at h1; exact h1))
  rw [h3]
  rw [hBP] at h2 ⊢
  rw [bl_shift h2]; omega
/-! ### Root -/
theorem BP_two (i : Nat) : BP i = 2 ^ (32 * i) := by rw [Nat.pow_mul]; rfl
theorem words_digs_self (n : Nat) : words n = digs (words n).length n := by
  refine List.ext_getElem (by rw [digs_len]) fun i h1 h2 => ?_
  have a := words_getD n i
  have b := digs_getD (N := (words n).length) (n := n) h1
  rw [List.getD_eq_getElem?_getD, List.getElem?_eq_getElem h1] at a
  rw [List.getD_eq_getElem?_getD, List.getElem?_eq_getElem h2] at b
  exact a.trans b.symm
theorem words_pow_len (k : Nat) : (words (2 ^ k)).length = k / 32 + 1 := by
  have h1 : (words (2 ^ k)).length ≤ k / 32 + 1 := (len_le_iff _ _).2 (by rw [BP_two]; exact Nat.pow_lt_pow_right (by omega) (by omega))
  have h2 : ¬ (words (2 ^ k)).length ≤ k / 32 := fun h => by
    have := (len_le_iff _ _).1 h
    rw [BP_two] at this
    have h3 : 2 ^ (32 * (k / 32)) ≤ 2 ^ k := Nat.pow_le_pow_right (by omega) (by omega)
    omega
  omega
theorem pow_cells (k : Nat) : cel (k / 32 + 1) (fun j => if j = k / 32 then 2 ^ (k % 32) else 0) = (words (2 ^ k)).map u32 := by
  rw [words_digs_self, words_pow_len, ← cel_digs]
  refine cel_congr fun j hj => ?_
  rw [BP_two, Nat.pow_div (by omega) (by omega)]
  split
  · rename_i h; subst h
    rw [show k - 32 * (k / 32) = k % 32 by omega]
    exact (Nat.mod_eq_of_lt (by have := Nat.pow_lt_pow_right (a := 2) (by omega) (show k % 32 < 32 by omega); have h32 : 2 ^ 32 = 4294967296 := by decide
                                omega)).symm
  · rename_i h
    rw [show k - 32 * j = (k - 32 * j - 32) + 32 by omega, Nat.pow_add]
    show 0 = _ * 4294967296 % 4294967296
    rw [Nat.mul_mod_left]
def rootInv (m : Nat) (x : Nat) : St := lay 52 [(2, .ptr 0 0), (4, rowW (words m)), (6, rowW (words x))] [(0, zeroW)]
noncomputable def rootEnd (m : Nat) : St := lay 52 [(2, .ptr 0 0), (3, .lit .nilIface)] [(0, [bool (false && decide (0 < isq m)), rowW (words (isq m))])]
theorem down_one (hG : Steady G) {a : Nat} (ha : (words a).length ≤ 2 ^ 37) : Spec Tryz.prog G 237 [rowW (words a), int 1] (rowW (words (a / 2))) := by
  have := down_spec (G := G) hG (dig_words a) (n := 1) (by omega) ha
  rw [val_words] at this
  exact this
theorem nat_quo {i c : Nat} (h : i < 2 ^ 60) : IntKind.wrap .i64 ((Int.ofNat i).tdiv (Int.ofNat c)) = Int.ofNat (i / c) := by
  have h60 : (2:Nat) ^ 60 = 1152921504606846976 := by decide
  have e : (Int.ofNat i).tdiv (Int.ofNat c) = Int.ofNat (i / c) := rfl
  have h1 := Nat.div_le_self i c
  generalize i / c = x at *
  rw [e, wrapS (by simp only [Int.ofNat_eq_natCast]; omega) (by simp only [Int.ofNat_eq_natCast]; omega)]
theorem nat_rem (i c : Nat) : (Int.ofNat i).tmod (Int.ofNat c) = Int.ofNat (i % c) := rfl
theorem shl_one {k : Nat} (h : k < 32) : IntKind.wrap .u32 (1 * 2 ^ min (Int.ofNat k).toNat (IntKind.bits .u32)) = Int.ofNat (2 ^ k) := by
  have e : min (Int.ofNat k).toNat (IntKind.bits .u32) = k := by
    show min k 32 = k
    omega
  rw [e, Int.one_mul, wrap32i]
  have h2 : 2 ^ k < 2 ^ 32 := Nat.pow_lt_pow_right (by omega) h
  have h32 : (2:Nat) ^ 32 = 4294967296 := by decide
  have : ((2:Int) ^ k) = ((2 ^ k : Nat) : Int) := by rw [Int.natCast_pow]; rfl
  rw [this]
  generalize 2 ^ k = x at *
  simp only [Int.ofNat_eq_natCast]
  omega
theorem pow_row (k : Nat) : D.row (k / 32 + 1) false (((splice (List.replicate (k / 32 + 1) (u32 0)) (k / 32) [u32 (2 ^ (k % 32))]).drop 0).take (k / 32 + 1)) = rowW (words (2 ^ k)) := by
  rw [cel_zero, splice_cel _ _ (by omega), pow_cells, List.drop_zero, List.take_of_length_le (by simp [words_pow_len])]
  unfold rowW
  rw [words_pow_len]
theorem cel_splice {N i v : Nat} (h : i < N) : splice (List.replicate N (u32 0)) i [u32 v] = cel N (fun j => if j = i then v else 0) := by
  rw [cel_zero, splice_cel _ _ h]
/-! ### Valid, any words -/
def Full (l : List Nat) : Bool := decide (l = words (val l))
theorem full_nil : Full [] = true := rfl
theorem full_last {l : List Nat} (hl : Dig l) (h : l ≠ []) : Full l = !(l.getD (l.length - 1) 0 == 0) := by
  unfold Full
  by_cases hz : l.getD (l.length - 1) 0 = 0
  · have : ¬ l = words (val l) := fun e => by
      have hv : val l ≠ 0 := fun e0 => by rw [e0] at e; exact h e
      have := words_last hv
      rw [← e] at this
      exact this hz
    rw [decide_eq_false this, hz]; rfl
  · rw [decide_eq_true (words_canon hl (fun _ => hz)).symm]
    have : (l.getD (l.length - 1) 0 == 0) = false := by rw [beq_eq_false_iff_ne]; exact hz
    rw [this]; rfl
theorem Valid_raw (hG : Steady G) {l : List Nat} (hl : Dig l) (h1 : l.length ≤ 2 ^ 36) : Spec Tryz.prog G 107 [.agg [bool false, rowW l]] (bool (Full l)) := by
  have h36 : (2:Nat) ^ 36 = 68719476736 := by decide
  by_cases h : l = []
  · subst h
    exact Spec.of_run hG Tryz.func107 (ro := [1]) (m := 30) [] (by kernel_rfl)
  · have hp : 0 < l.length := List.length_pos_iff.2 h
    rw [full_last hl h]
    have e1 : (Int.ofNat l.length == 0) = false := by simp; omega
    exact Spec.of_run hG Tryz.func107 (ro := [1]) (m := 30)
      [.eq 6 (eqB e1), .eq 15 (eqS (nat_pred (i := l.length) (by omega) hp)), .prop (at_need (l := l) (i := l.length - 1) (by omega)), .prop (load_need (l := l) (i := l.length - 1) (by omega)), .eq 17 (headD_need (l := l) (i := l.length - 1) (by omega)),
       .eq 18 (eqB (x := (Int.ofNat (l.getD (l.length - 1) 0) != 0)) (y := !(l.getD (l.length - 1) 0 == 0)) (by rw [Bool.eq_iff_iff]; simp))] (by kernel_rfl)
end Lw
