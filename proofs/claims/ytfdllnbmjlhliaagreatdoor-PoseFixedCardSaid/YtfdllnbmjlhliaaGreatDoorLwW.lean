/- The contract of a division of words. No condition. -/
import Derived.Test.YtfdllnbmjlhliaaGreatDoorLwV
namespace Lw
open Go Go.RowKit Go.Proofs

variable {G : World → Prop}

theorem SpecN.row {P : Program} {f : FuncId} {args : List D} {n : Nat} {cs : List D} (h : SpecN P G f args n cs) : Spec P G f args (.row n false cs) := by
  intro w F vals h1 h2 h3
  refine (h w F vals h1 h2 h3).mono fun e w' hend => ?_
  obtain ⟨k, us, ty, rfl, q1, q2, q3, q4, q5, q6, q7⟩ := hend
  refine ⟨_, rfl, ?_, q6, q7⟩
  have hr := q5.mono (w' := w') (X' := F) (fun a u hu hx => ⟨hu, fun hf => hx (.inl hf)⟩)
  refine .row _ _ _ _ _ _ hr.1 (Nat.le_refl _) q1 (fun h => by cases h) (fun i hi => ⟨_, rfl, fun hf => ?_, ?_⟩) hr.2
  · have := h3 k hf; omega
  · rw [Addr.lit_add, Nat.zero_add, cell_of_row w' _ _ us ty (0, 0) q3]
    simp at hi ⊢
theorem up_row (hG : Steady G) {l : List Nat} (hl : Dig l) {n : Nat} (hn : n ≤ 31) (h1 : l.length ≤ 2 ^ 36) :
    Spec Tryz.prog G 149 [rowW l, nat n] (rowW (digs (l.length + 1) (val l * 2 ^ n))) := by
  have := SpecN.row (up_spec (G := G) hG hl hn h1)
  unfold rowW
  rw [digs_len]; exact this
theorem trim_words (hG : Steady G) (a : Nat) (h : (words a).length ≤ 2 ^ 36) : Spec Tryz.prog G 130 [rowW (words a)] (rowW (words a)) := by
  have h36 : (2:Nat) ^ 36 = 68719476736 := by decide
  have h40 : (2:Nat) ^ 40 = 1099511627776 := by decide
  have := trim_spec (G := G) hG (dig_words a) (by omega)
  rwa [val_words] at this
theorem trim_one (hG : Steady G) {x : Nat} (h : x < 4294967296) : Spec Tryz.prog G 130 [rowW [x]] (rowW (words x)) := by
  have := trim_spec (G := G) hG (l := [x]) (fun y hy => by simp at hy; omega) (by simp)
  have e : val [x] = x := by simp [val]
  rwa [e] at this
theorem digs_take {N M x : Nat} (h : N ≤ M) : (digs M x).take N = digs N x := by
  unfold digs
  rw [← List.map_take, List.take_range, Nat.min_eq_left h]
theorem long_loop (hG : Steady G) {d : LongIn} (hd : d.ok) (hb : d.N < 2 ^ 60) :
    Abs Tryz.prog G 158 0 (.loop (loopOf Tryz.f131 0))
      (lay 158 [(8, nat d.n), (9, rowW d.v), (10, .slc 0 0 d.N d.N), (11, .slc 1 0 d.Nq d.Nq), (12, u64 (d.V / BP (d.lb - 1))), (13, u64 (d.V / BP (d.lb - 2) % 4294967296)), (14, int (cnt d.Nq))]
        [(0, (digs d.N d.U).map u32), (1, List.replicate d.Nq (u32 0))]) (.exit 0) (longInv d 0) := by
  have hlast : Goes Tryz.prog G 0 (loopOf Tryz.f131 0) (longInv d 0) (.exit 0) (longInv d 0) := Goes.of_run hG (ro := []) (m := 30) (lay_len ..) [] (by kernel_rfl)
  have h := Abs.down (longInv d) d.Nq (fun k => lay_len _ _ _) (by simp) (fun i hi => LongIn.round hG hd hi hb) hlast
  have e : longInv d d.Nq = lay 158 [(8, nat d.n), (9, rowW d.v), (10, .slc 0 0 d.N d.N), (11, .slc 1 0 d.Nq d.Nq), (12, u64 (d.V / BP (d.lb - 1))), (13, u64 (d.V / BP (d.lb - 2) % 4294967296)), (14, int (cnt d.Nq))]
        [(0, (digs d.N d.U).map u32), (1, List.replicate d.Nq (u32 0))] := by
    have hst : d.U < BP d.Nq * d.V := (LongIn.start hd).1
    have f1 : cel d.N (d.uF d.Nq) = cel d.N (fun j => d.U / BP j % 4294967296) := cel_congr fun j _ => by
      unfold LongIn.uF LongIn.R
      rw [Nat.mod_eq_of_lt hst]
    have f2 : cel d.Nq (d.qF d.Nq) = cel d.Nq (fun _ => 0) := cel_congr fun j hj => by unfold LongIn.qF; rw [if_neg (by omega)]
    rw [cel_zero, ← cel_digs]
    unfold longInv
    rw [f1, f2]
  rw [e] at h; exact h
theorem cel_same (N : Nat) (f : Nat → Nat) (s : Nat) (h : ∀ j, j < N → f j = s / BP j % 4294967296) : D.row N false (((cel N f).drop 0).take N) = rowW (digs N s) := by
  rw [← cel_row, cel_congr h]
theorem divide_lt (hG : Steady G) {a b : Nat} (hab : a < b) (h1 : (words a).length ≤ 2 ^ 36) (h2 : (words b).length ≤ 2 ^ 36) :
    Spec Tryz.prog G 131 [rowW (words a), rowW (words b)] (.tup [rowW [], rowW (words a)]) :=
  Spec.of_run hG Tryz.func131 (ro := []) (m := 60)
    [.call (compare_spec hG a b h1 h2), .eq 22 (eqB (x := decide (cmpI a b < 0)) (y := true) (by unfold cmpI; rw [if_pos hab]; rfl)), .call (trim_words hG a h1)] (by kernel_rfl)
theorem cmp_ge {a b : Nat} (h : b ≤ a) : decide (cmpI a b < 0) = false := by
  unfold cmpI
  rw [if_neg (by omega)]
  split <;> rfl
theorem divide_one (hG : Steady G) {a b : Nat} (hab : b ≤ a) (hb0 : 0 < b) (hb1 : (words b).length = 1) (h1 : (words a).length ≤ 2 ^ 36) :
    Spec Tryz.prog G 131 [rowW (words a), rowW (words b)] (.tup [rowW (words (a / b)), rowW (words (a % b))]) := by
  have h36 : (2:Nat) ^ 36 = 68719476736 := by decide
  have hbl : b < 4294967296 := by
    have := (len_le_iff b 1).1 (by omega)
    rwa [BP_succ, BP_zero] at this
  have hg : (words b).getD 0 0 = b := by rw [words_getD, BP_zero, Nat.div_one, Nat.mod_eq_of_lt hbl]
  have hs := short_spec (G := G) hG (dig_words a) hb0 hbl h1
  rw [val_words] at hs
  have hm : a % b < b := Nat.mod_lt _ hb0
  have h0 : 0 < (words b).length := by omega
  exact Spec.of_run hG Tryz.func131 (ro := []) (m := 60)
    [.call (compare_spec hG a b h1 (by omega)), .eq 22 (eqB (cmp_ge hab)), .eq 27 (eqB (x := Int.ofNat (words b).length == 1) (y := true) (by rw [hb1]; rfl)),
     .prop (at_need (i := 0) h0), .prop (load_need (i := 0) h0), .eq 32 (d := (((words b).map u32).drop ((Int.ofNat 0).toNat * 1)).headD .any) (d' := u32 b) (by rw [headD_need h0, hg]), .call hs, .call (trim_one (x := a % b) hG (by omega))] (by kernel_rfl)
theorem divide_long (hG : Steady G) {a b : Nat} (hab : b ≤ a) (hb2 : 2 ≤ (words b).length) (h1 : (words a).length ≤ 2 ^ 36) :
    Spec Tryz.prog G 131 [rowW (words a), rowW (words b)] (.tup [rowW (words (a / b)), rowW (words (a % b))]) := by
  have h36 : (2:Nat) ^ 36 = 68719476736 := by decide
  have h37 : (2:Nat) ^ 37 = 137438953472 := by decide
  have h40 : (2:Nat) ^ 40 = 1099511627776 := by decide
  have h60 : (2:Nat) ^ 60 = 1152921504606846976 := by decide
  have hd := LongIn.normal hb2 hab
  have hlen : (words b).length ≤ (words a).length := (len_le_iff b _).2 (Nat.lt_of_le_of_lt hab ((len_le_iff a _).1 (Nat.le_refl _)))
  generalize hx : (words b).getD ((words b).length - 1) 0 = x at hd
  have hxl : x < 4294967296 := by rw [← hx]; exact (dig_words b).getD _
  generalize hdd : (⟨a, b, 32 - bl x, (words a).length, (words b).length⟩ : LongIn) = d at hd
  have e1 : d.n = 32 - bl x := by rw [← hdd]
  have e2 : d.N = (words a).length + 1 := by rw [← hdd]; rfl
  have e3 : d.lb = (words b).length := by rw [← hdd]
  have e4 : d.U = a * 2 ^ d.n := by rw [← hdd]; rfl
  have e5 : d.V = b * 2 ^ d.n := by rw [← hdd]; rfl
  have e6 : d.Nq = (words a).length + 1 - (words b).length := by rw [← hdd]; rfl
  have e7 : d.a = a := by rw [← hdd]
  have e8 : d.b = b := by rw [← hdd]
  have hlast : (words b).length - 1 < (words b).length := by omega
  have hub := up_row (G := G) hG (dig_words b) hd.hn (by omega)
  have hua := up_spec (G := G) hG (dig_words a) hd.hn h1
  rw [val_words, ← e5, ← e3] at hub
  rw [val_words, ← e4, ← e2] at hua
  have hvl := LongIn.v_len d
  have hloop := long_loop (G := G) hG hd (by rw [e2]; omega)
  have ht := trim_spec (G := G) hG (l := digs d.Nq (d.U / d.V)) (digs_dig _ _) (by rw [digs_len, e6]; omega)
  have hq : d.U / d.V < BP d.Nq := by
    have h2 := (LongIn.start hd).1
    rw [Nat.div_lt_iff_lt_mul (LongIn.V_pos hd)]; exact h2
  have hqq : words (d.U / d.V) = words (a / b) := by rw [LongIn.quot, e7, e8]
  rw [words_digs hq, hqq] at ht
  have hR0 : d.R 0 < BP d.N := Nat.lt_of_le_of_lt (Nat.mod_le _ _) (LongIn.start hd).2
  have hdn := down_spec (G := G) hG (l := digs d.N (d.R 0)) (digs_dig _ _) hd.hn (by rw [digs_len, e2]; omega)
  rw [val_digs hR0, LongIn.R_zero, e7, e8] at hdn
  have hv1 : d.v.length - 1 < d.v.length := by have := hd.hlb; omega
  have hv2 : d.v.length - 2 < d.v.length := by have := hd.hlb; omega
  have g1 : d.v.getD (d.v.length - 1) 0 = d.V / BP (d.lb - 1) := by
    have := (LongIn.guess_ok hd 0).htop'
    have h3 : d.V / BP (d.lb - 1) < 4294967296 := this
    rw [hvl]
    show (digs d.lb d.V).getD (d.lb - 1) 0 = _
    rw [digs_getD (by have := hd.hlb; omega), Nat.mod_eq_of_lt h3]
  have g2 : d.v.getD (d.v.length - 2) 0 = d.V / BP (d.lb - 2) % 4294967296 := by
    rw [hvl]
    show (digs d.lb d.V).getD (d.lb - 2) 0 = _
    rw [digs_getD (by have := hd.hlb; omega)]
  have hw1 := (LongIn.v_dig d).getD (d.v.length - 1)
  have hw2 := (LongIn.v_dig d).getD (d.v.length - 2)
  rw [g1] at hw1
  rw [g2] at hw2
  have hsl : D.row ((Int.ofNat (words b).length).toNat - (0:Int).toNat) (false && false) ((((digs (d.lb + 1) d.V).map u32).drop ((0:Int).toNat * 1)).take (((Int.ofNat (words b).length).toNat - (0:Int).toNat) * 1)) = rowW d.v := by
    simp only [Int.ofNat_eq_natCast, Int.toNat_natCast, Int.toNat_zero, Nat.mul_one, Nat.sub_zero, List.drop_zero, Bool.false_and]
    rw [← List.map_take, ← e3, digs_take (by omega)]
    show _ = D.row d.v.length false (d.v.map u32)
    rw [hvl]; rfl
  exact Spec.of_run hG Tryz.func131 (ro := []) (m := 60) (args := [rowW (words a), rowW (words b)])
    [.call (compare_spec hG a b h1 (by omega)), .eq 22 (eqB (cmp_ge hab)), .eq 27 (eqB (x := Int.ofNat (words b).length == 1) (y := false) (by rw [beq_eq_false_iff_ne]; simp only [Int.ofNat_eq_natCast]; omega)),
     .eq 43 (eqS (nat_sub (i := (words b).length) (k := 1) (by omega) (by omega))), .prop (at_need hlast), .prop (load_need hlast), .eq 45 (d := (((words b).map u32).drop ((Int.ofNat ((words b).length - 1)).toNat * 1)).headD .any) (d' := u32 x) (by rw [headD_need hlast, hx]),
     .call (lead_spec hG hxl), .eq 46 (d := nat (32 - bl x)) (d' := nat d.n) (by rw [e1]), .call hub, .prop (p := (0:Int) ≤ 0 ∧ 0 ≤ Int.ofNat (words b).length ∧ Int.ofNat (words b).length ≤ ((digs (d.lb + 1) d.V).length : Int)) (by rw [digs_len, e3]; simp only [Int.ofNat_eq_natCast]; omega),
     .eq 52 hsl, .callN hua,
     .eq 60 (d := .lit (.int .i64 (IntKind.wrap .i64 (Int.ofNat d.N - Int.ofNat d.v.length)))) (d' := nat d.Nq) (by rw [nat_sub (by rw [e2]; omega) (by rw [hvl, e2, e3]; omega), hvl]; rfl), .prop (make_need (N := d.Nq) (by rw [e6]; omega)),
     .eq 65 (eqS (nat_sub (i := d.v.length) (k := 1) (by rw [hvl, e3]; omega) (by have := hd.hlb; omega))), .prop (at_need hv1), .prop (load_need hv1), .eq 67 (d := ((d.v.map u32).drop ((Int.ofNat (d.v.length - 1)).toNat * 1)).headD .any) (d' := u32 (d.V / BP (d.lb - 1))) (by rw [headD_need hv1, g1]),
     .eq 68 (eq64 (conv64 hw1)), .eq 72 (eqS (nat_sub (i := d.v.length) (k := 2) (by rw [hvl, e3]; omega) (by have := hd.hlb; omega))), .prop (at_need hv2), .prop (load_need hv2),
     .eq 74 (d := ((d.v.map u32).drop ((Int.ofNat (d.v.length - 2)).toNat * 1)).headD .any) (d' := u32 (d.V / BP (d.lb - 2) % 4294967296)) (by rw [headD_need hv2, g2]), .eq 75 (eq64 (conv64 hw2)),
     .eq 78 (eqS (cnt_top (n := d.Nq) (by rw [e6]; omega))), .code hloop, .freeze 0, .freeze 1,
     .eq 153 (cel_same d.Nq (d.qF 0) (d.U / d.V) (fun j _ => by unfold LongIn.qF; rw [if_pos (Nat.zero_le _)])), .call ht, .eq 155 (cel_same d.N (d.uF 0) (d.R 0) (fun j _ => rfl)), .call hdn] (by kernel_rfl)
/-- Quotient and rest of words. -/
theorem divide_spec (hG : Steady G) {a b : Nat} (hb0 : 0 < b) (h1 : (words a).length ≤ 2 ^ 36) (h2 : (words b).length ≤ 2 ^ 36) :
    Spec Tryz.prog G 131 [rowW (words a), rowW (words b)] (.tup [rowW (words (a / b)), rowW (words (a % b))]) := by
  rcases Nat.lt_or_ge a b with h | h
  · rw [Nat.div_eq_of_lt h, Nat.mod_eq_of_lt h, words_zero]
    exact divide_lt hG h h1 h2
  · have hp := words_len_pos (n := b) (by omega)
    by_cases hone : (words b).length = 1
    · exact divide_one hG h hb0 hone h1
    · exact divide_long hG h (by omega) h1
end Lw
