/- Fractions as the program keeps them, and the numbers that they stand for. No condition. -/
import Derived.Test.YtmcpfihkambgnaaGreatLwZb
namespace Lw
open Go Go.RowKit

/-- The fields of a fraction. -/
structure Raw where
  s : Bool
  n : List Nat
  d : List Nat
def Raw.dat (r : Raw) : D := .agg [bool r.s, rowW r.n, rowW r.d]
def Raw.ok (k : Nat) (r : Raw) : Prop := Dig r.n ∧ Dig r.d ∧ r.n.length ≤ k ∧ r.d.length ≤ k ∧ 0 < k
def Raw.good (r : Raw) : Prop := r.n ≠ [] ∧ r.d ≠ [] ∧ r.n = words (val r.n) ∧ r.d = words (val r.d) ∧ Nat.gcd (val r.n) (val r.d) = 1
instance (r : Raw) : Decidable r.good := by unfold Raw.good; infer_instance
def Raw.valid (r : Raw) : Bool := if r.n = [] ∧ r.d = [] then !r.s else decide r.good
/-- The number. -/
def Raw.q (r : Raw) : Rat := if r.good then mkRat (mkI r.s (val r.n)) (val r.d) else 0
def rawOf (q : Rat) : Raw := if q.num = 0 then ⟨false, [], []⟩ else ⟨decide (q.num < 0), words q.num.natAbs, words q.den⟩
def F (q : Rat) : D := (rawOf q).dat
def IsQ (k : Nat) (x : D) (q : Rat) : Prop := ∃ r : Raw, x = r.dat ∧ r.ok k ∧ r.q = q
def SzQ (k : Nat) (q : Rat) : Prop := (words q.num.natAbs).length ≤ k ∧ (words q.den).length ≤ k ∧ 0 < k

theorem words_some {n : Nat} (h : 0 < n) : words n ≠ [] := fun e => by
  have := val_words n
  rw [e] at this
  have h0 : val [] = 0 := rfl
  omega
theorem mkI_abs (s : Bool) (n : Nat) : (mkI s n).natAbs = n := by cases s <;> simp [mkI]
theorem Raw.good_den {r : Raw} (h : r.good) : 0 < val r.d := by
  rcases Nat.eq_zero_or_pos (val r.d) with e | e
  · obtain ⟨-, h2, -, h4, -⟩ := h
    rw [e] at h4; exact absurd h4 h2
  · exact e
theorem Raw.good_num {r : Raw} (h : r.good) : 0 < val r.n := by
  rcases Nat.eq_zero_or_pos (val r.n) with e | e
  · obtain ⟨h1, -, h3, -, -⟩ := h
    rw [e] at h3; exact absurd h3 h1
  · exact e
theorem Raw.q_parts {r : Raw} (h : r.good) : r.q.num = mkI r.s (val r.n) ∧ r.q.den = val r.d := by
  have hd := Raw.good_den h
  obtain ⟨-, -, -, -, h5⟩ := id h
  unfold Raw.q
  rw [if_pos h, Rat.num_mkRat, Rat.den_mkRat, if_neg (by omega), if_neg (by omega), mkI_abs, Nat.gcd_comm, h5]
  exact ⟨Int.ediv_one _, Nat.div_one _⟩
theorem Raw.q_zero {r : Raw} (h : ¬ r.good) : r.q = 0 := by unfold Raw.q; rw [if_neg h]
theorem rawOf_good {q : Rat} (h : q.num ≠ 0) : (rawOf q).good := by
  unfold rawOf
  rw [if_neg h]
  refine ⟨words_some (by omega), words_some q.den_pos, ?_, ?_, ?_⟩
  · show words _ = words (val (words _)); rw [val_words]
  · show words _ = words (val (words _)); rw [val_words]
  · show Nat.gcd (val (words _)) (val (words _)) = 1
    rw [val_words, val_words]; exact q.reduced
theorem mkI_num (i : Int) : mkI (decide (i < 0)) i.natAbs = i := by
  by_cases h : i < 0
  · rw [decide_eq_true h]; show -(i.natAbs : Int) = i; omega
  · rw [decide_eq_false h]; show (i.natAbs : Int) = i; omega
theorem rawOf_q (q : Rat) : (rawOf q).q = q := by
  by_cases h : q.num = 0
  · have : q = 0 := Rat.num_eq_zero.1 h
    subst this
    rfl
  · have hg := rawOf_good h
    have h1 := Raw.q_parts hg
    refine Rat.ext ?_ ?_
    · rw [h1.1]; unfold rawOf; rw [if_neg h]
      show mkI _ (val (words _)) = _
      rw [val_words, mkI_num]
    · rw [h1.2]; unfold rawOf; rw [if_neg h]
      exact val_words _
theorem SzQ.ok {k : Nat} {q : Rat} (h : SzQ k q) : (rawOf q).ok k := by
  unfold rawOf
  split
  · exact ⟨(fun x hx => by cases hx), (fun x hx => by cases hx), Nat.zero_le _, Nat.zero_le _, h.2.2⟩
  · exact ⟨dig_words _, dig_words _, h.1, h.2.1, h.2.2⟩
theorem SzQ.isQ {k : Nat} {q : Rat} (h : SzQ k q) : IsQ k (F q) q := ⟨rawOf q, rfl, h.ok, rawOf_q q⟩
theorem len_one : (words 1).length = 1 := rfl
theorem Raw.ok.sz {k : Nat} {r : Raw} (h : r.ok k) : SzQ k r.q := by
  obtain ⟨h1, h2, h3, h4, h5⟩ := h
  by_cases hg : r.good
  · obtain ⟨e1, e2⟩ := Raw.q_parts hg
    obtain ⟨-, -, g1, g2, -⟩ := hg
    refine ⟨?_, ?_, h5⟩
    · rw [e1, mkI_abs, ← g1]; exact h3
    · rw [e2, ← g2]; exact h4
  · rw [Raw.q_zero hg]
    exact ⟨Nat.zero_le _, by show (words 1).length ≤ k; rw [len_one]; omega, h5⟩
theorem IsQ.sz {k : Nat} {x : D} {q : Rat} (h : IsQ k x q) : SzQ k q := by
  obtain ⟨r, -, h, rfl⟩ := h; exact h.sz
theorem SzQ.mono {k l : Nat} {q : Rat} (h : SzQ k q) (hl : k ≤ l) : SzQ l q := ⟨Nat.le_trans h.1 hl, Nat.le_trans h.2.1 hl, by have := h.2.2; omega⟩
theorem IsQ.mono {k l : Nat} {x : D} {q : Rat} (h : IsQ k x q) (hl : k ≤ l) : IsQ l x q := by
  obtain ⟨r, rfl, ⟨h1, h2, h3, h4, h5⟩, rfl⟩ := h; exact ⟨r, rfl, ⟨h1, h2, by omega, by omega, by omega⟩, rfl⟩

/-! ### Sizes -/
theorem sz_zero {k : Nat} (h : 0 < k) : SzQ k 0 := ⟨Nat.zero_le _, by show (words 1).length ≤ k; rw [len_one]; omega, h⟩
theorem sz_divInt {k : Nat} {n d : Int} (h0 : 0 < k) (hn : (words n.natAbs).length ≤ k) (hd : (words d.natAbs).length ≤ k) : SzQ k (Rat.divInt n d) := by
  by_cases hz : d = 0
  · subst hz; rw [Rat.divInt_zero]; exact sz_zero h0
  · refine ⟨?_, ?_, h0⟩
    · rw [Rat.num_divInt]
      refine Nat.le_trans (len_mono ?_) hn
      have h1 : d.sign * n = n ∨ d.sign * n = -n := by
        rcases sign_cases d with ⟨_, e⟩ | ⟨_, e⟩ | ⟨_, e⟩
        · right; rw [e]; omega
        · omega
        · left; rw [e]; omega
      have h2 : ∀ m : Int, (m / ((d.gcd n : Nat) : Int)).natAbs ≤ m.natAbs := fun m => Int.natAbs_ediv_le_natAbs m _
      have := h2 (d.sign * n)
      rcases h1 with e | e
      · rw [e] at this ⊢; exact this
      · rw [e, Int.natAbs_neg] at this; rw [e]; exact this
    · rw [Rat.den_divInt, if_neg hz]
      exact Nat.le_trans (len_mono (Nat.div_le_self _ _)) hd
theorem sz_mkRat {k : Nat} {n : Int} {d : Nat} (h0 : 0 < k) (hn : (words n.natAbs).length ≤ k) (hd : (words d).length ≤ k) : SzQ k (mkRat n d) := by
  rw [← Rat.divInt_ofNat]; exact sz_divInt h0 hn hd
theorem len_mulI {a b : Int} : (words (a * b).natAbs).length ≤ (words a.natAbs).length + (words b.natAbs).length := by rw [Int.natAbs_mul]; exact len_mul
theorem len_addI {a b : Int} : (words (a + b).natAbs).length ≤ max (words a.natAbs).length (words b.natAbs).length + 1 := by
  refine Nat.le_trans (len_mono (Int.natAbs_add_le a b)) len_add
theorem SzQ.neg {k : Nat} {a : Rat} (h : SzQ k a) : SzQ k (-a) := by
  unfold SzQ
  rw [Rat.neg_num, Rat.neg_den, Int.natAbs_neg]; exact h
theorem SzQ.add {k l : Nat} {a b : Rat} (ha : SzQ k a) (hb : SzQ l b) : SzQ (k + l + 1) (a + b) := by
  rw [Rat.add_def']
  have h1 := len_mulI (a := a.num) (b := (b.den : Int))
  have h2 := len_mulI (a := b.num) (b := (a.den : Int))
  have h3 := len_addI (a := a.num * b.den) (b := b.num * a.den)
  have h4 := len_mul (a := a.den) (b := b.den)
  rw [Int.natAbs_natCast] at h1 h2
  unfold SzQ at ha hb
  exact sz_mkRat (by omega) (by omega) (by omega)
theorem SzQ.sub {k l : Nat} {a b : Rat} (ha : SzQ k a) (hb : SzQ l b) : SzQ (k + l + 1) (a - b) := by rw [Rat.sub_eq_add_neg]; exact ha.add hb.neg
theorem SzQ.mul {k l : Nat} {a b : Rat} (ha : SzQ k a) (hb : SzQ l b) : SzQ (k + l) (a * b) := by
  rw [Rat.mul_def']
  have h1 := len_mulI (a := a.num) (b := b.num)
  have h4 := len_mul (a := a.den) (b := b.den)
  unfold SzQ at ha hb
  exact sz_mkRat (by omega) (by omega) (by omega)
theorem SzQ.inv {k : Nat} {a : Rat} (ha : SzQ k a) : SzQ k a⁻¹ := by
  rw [Rat.inv_def]
  unfold SzQ at ha
  exact sz_divInt ha.2.2 (by rw [Int.natAbs_natCast]; exact ha.2.1) ha.1
theorem SzQ.div {k l : Nat} {a b : Rat} (ha : SzQ k a) (hb : SzQ l b) : SzQ (k + l) (a / b) := by rw [Rat.div_def]; exact ha.mul hb.inv

/-! ### Words, fields -/
theorem rat_div (a : Rat) : a = Rat.divInt a.num a.den := (Rat.num_divInt_den a).symm
theorem F_of {n d : Int} (hn : n ≠ 0) (hd : 0 < d) : F (Rat.divInt n d) = .agg [bool (decide (n < 0)), rowW (words (n.natAbs / Int.gcd n d)), rowW (words (d.natAbs / Int.gcd n d))] := by
  have hgp : 0 < Int.gcd n d := by unfold Int.gcd; exact Nat.gcd_pos_of_pos_left _ (by omega)
  have hs : d.sign = 1 := Int.sign_eq_one_of_pos hd
  have hdv : ((Int.gcd n d : Nat) : Int) ∣ n := Int.gcd_dvd_left n d
  have e1 : (Rat.divInt n d).num = n / (Int.gcd n d : Nat) := by rw [Rat.num_divInt, hs, Int.one_mul, Int.gcd_comm]
  have e2 : (Rat.divInt n d).den = d.natAbs / Int.gcd n d := by rw [Rat.den_divInt, if_neg (by omega), Int.gcd_comm]
  obtain ⟨m, hm⟩ := hdv
  have e3 : n / ((Int.gcd n d : Nat) : Int) = m := Int.ediv_eq_of_eq_mul_right (by omega) hm
  have e4 : n.natAbs = Int.gcd n d * m.natAbs := by have := congrArg Int.natAbs hm; rwa [Int.natAbs_mul, Int.natAbs_natCast] at this
  have e5 : n.natAbs / Int.gcd n d = m.natAbs := Nat.div_eq_of_eq_mul_right hgp e4
  have hm0 : m ≠ 0 := fun e => by rw [e, Int.mul_zero] at hm; exact hn hm
  have e6 : (m < 0) ↔ (n < 0) := by
    have hg' : (0 : Int) < (Int.gcd n d : Nat) := by omega
    rcases Int.lt_or_gt_of_ne hm0 with h | h
    · have := Int.mul_neg_of_pos_of_neg hg' h
      exact ⟨fun _ => by rw [hm]; exact this, fun _ => h⟩
    · have := Int.mul_pos hg' h
      rw [← hm] at this
      constructor <;> intro <;> omega
  unfold F rawOf
  rw [e1, e3, if_neg hm0, e2, e5]
  show D.agg [bool (decide (m < 0)), _, _] = _
  rw [decide_eq_decide.2 e6]
theorem F_zero : F 0 = .agg [bool false, rowW [], rowW []] := rfl

/-! ### Order -/
def cmpQ (a b : Rat) : Int := if a < b then -1 else if b < a then 1 else 0
theorem cmpQ_parts (a b : Rat) : cmpZ (a.num * b.den) (b.num * a.den) = cmpQ a b := by
  unfold cmpZ cmpQ
  simp only [Rat.lt_iff]
def sgn (a : Rat) : Int := a.num.sign
theorem sgn_zero {a : Rat} : sgn a = 0 ↔ a = 0 := by unfold sgn; rw [Int.sign_eq_zero_iff_zero, Rat.num_eq_zero]
theorem sgn_neg {a : Rat} : sgn a < 0 ↔ a < 0 := by
  unfold sgn
  rw [Rat.lt_iff]
  simp only [Rat.zero_num, Rat.zero_den, Int.zero_mul]
  rcases sign_cases a.num with ⟨h, e⟩ | ⟨h, e⟩ | ⟨h, e⟩ <;> omega
theorem sgn_cases (a : Rat) : (a < 0 ∧ sgn a = -1) ∨ (a = 0 ∧ sgn a = 0) ∨ (0 < a ∧ sgn a = 1) := by
  have h1 := sgn_zero (a := a)
  have h2 := sgn_neg (a := a)
  rcases sign_cases a.num with ⟨h, e⟩ | ⟨h, e⟩ | ⟨h, e⟩
  · exact .inl ⟨h2.1 (by unfold sgn; omega), e⟩
  · exact .inr (.inl ⟨h1.1 e, e⟩)
  · refine .inr (.inr ⟨?_, e⟩)
    have n1 : ¬ a < 0 := fun hh => by have := h2.2 hh; unfold sgn at this; omega
    have n2 : a ≠ 0 := fun hh => by have := h1.2 hh; unfold sgn at this; omega
    rw [Rat.not_lt] at n1
    exact Rat.lt_of_le_of_ne n1 (Ne.symm n2)
theorem cmpQ_le {a b : Rat} : cmpQ a b ≤ 0 ↔ a ≤ b := by
  unfold cmpQ
  split
  · rename_i h; exact ⟨fun _ => Rat.le_of_lt h, fun _ => by omega⟩
  · rename_i h
    rw [Rat.not_lt] at h
    split
    · rename_i h2; constructor
      · intro; omega
      · intro h3; rw [← Rat.not_lt] at h3; exact absurd h2 h3
    · rename_i h2; rw [Rat.not_lt] at h2; exact ⟨fun _ => h2, fun _ => by omega⟩
theorem cmpQ_sub (a b : Rat) : sgn (a - b) = cmpQ a b := by
  unfold cmpQ
  rcases sgn_cases (a - b) with ⟨h, e⟩ | ⟨h, e⟩ | ⟨h, e⟩
  · have : a < b := by grind
    rw [if_pos this, e]
  · have : a = b := by grind
    subst this
    rw [e, if_neg Rat.lt_irrefl, if_neg Rat.lt_irrefl]
  · have h1 : b < a := by grind
    have h2 : ¬ a < b := by grind
    rw [if_neg h2, if_pos h1, e]
end Lw

namespace Lw
open Go Go.RowKit Go.Proofs

variable {G : World → Prop}

theorem one_spec (hG : Steady G) : Spec Tryz.prog G 72 [] (W 1) :=
  Spec.of_run hG Tryz.func72 (ro := []) (m := 30) [.call (Of_spec hG (i := 1) (by omega) (by omega))] (by kernel_rfl)
theorem Full_words (n : Nat) : Full (words n) = true := by unfold Full; rw [val_words]; simp
theorem full_get {l : List Nat} (h : Full l = true) : ∃ n, l = words n := ⟨val l, by unfold Full at h; simpa using h⟩
theorem good_iff (s : Bool) (N M : Nat) (hN : 0 < N) (hM : 0 < M) : (Raw.mk s (words N) (words M)).good ↔ Nat.gcd N M = 1 := by
  unfold Raw.good
  simp only [val_words]
  exact ⟨fun h => h.2.2.2.2, fun h => ⟨words_some hN, words_some hM, trivial, trivial, h⟩⟩
theorem cmp_one (g : Nat) : (cmpZ (g : Int) 1 == 0) = decide (g = 1) := by
  unfold cmpZ
  by_cases h : g = 1
  · subst h; rfl
  · rw [decide_eq_false h]
    by_cases h2 : (g : Int) < 1
    · rw [if_pos h2]; rfl
    · rw [if_neg h2, if_pos (by omega)]; rfl
theorem len_ne {l : List Nat} (h : l ≠ []) : (Int.ofNat l.length == 0) = false := by
  rw [beq_eq_false_iff_ne]
  have := List.length_pos_iff.2 h
  simp only [Int.ofNat_eq_natCast]; omega
def KB : Nat := 268435456
theorem KB_eq : KB = 268435456 := rfl
theorem Gcd_wv (hG : Steady G) {s t : Bool} {m n : Nat} (hs : s = true → 0 < m) (ht : t = true → 0 < n) (hm : Sz m) (hn : Sz n) : Spec Tryz.prog G 108 [wv s m, wv t n] (wv false (Nat.gcd m n)) := by
  have h := Gcd_spec (G := G) hG (i := mkI s m) (j := mkI t n) (by unfold SzI; rw [mkI_abs]; exact hm) (by unfold SzI; rw [mkI_abs]; exact hn)
  rw [W_mk hs, W_mk ht, W_nat] at h
  have e : Int.gcd (mkI s m) (mkI t n) = Nat.gcd m n := by unfold Int.gcd; rw [mkI_abs, mkI_abs]
  rw [e] at h
  exact h
theorem Div_nat (hG : Steady G) {m n : Nat} (hn0 : 0 < n) (hm : Sz m) (hn : Sz n) : Spec Tryz.prog G 133 [wv false m, wv false n] (.tup [wv false (m / n), wv false (m % n), .lit .nilIface]) :=
  Div_even hG (s := false) (t := false) (by simp) (by simp) hn0 hm hn (.inl rfl)
theorem Cmp_one (hG : Steady G) {g : Nat} (h : Sz g) : Spec Tryz.prog G 67 [wv false g, W 1] (int (cmpZ (g : Int) 1)) := by
  have := Cmp_spec (G := G) hG (i := (g : Int)) (j := 1) h (by unfold SzI Sz; decide)
  rw [W_nat] at this
  exact this

/-! ### Valid -/
theorem FValid_spec (hG : Steady G) {r : Raw} {k : Nat} (hr : r.ok k) (hk : k ≤ KB) : Spec Tryz.prog G 42 [r.dat] (bool r.valid) := by
  have h30 : (2:Nat) ^ 30 = 1073741824 := by decide
  have h36 : (2:Nat) ^ 36 = 68719476736 := by decide
  obtain ⟨s, n, d⟩ := r
  obtain ⟨hn, hd, ln, ld, -⟩ := hr
  simp only at hn hd ln ld
  rw [KB_eq] at hk
  by_cases en : n = []
  · subst en
    by_cases ed : d = []
    · subst ed
      exact Spec.of_run hG Tryz.func42 (ro := [1]) (m := 40) [] (by kernel_rfl)
    · have hv : (Raw.mk s [] d).valid = false := by
        unfold Raw.valid
        rw [if_neg (fun h => ed h.2)]
        exact decide_eq_false fun h => h.1 rfl
      rw [hv]
      exact Spec.of_run hG Tryz.func42 (ro := [1]) (m := 40) [.eq 13 (eqB (len_ne ed))] (by kernel_rfl)
  · have hv0 : (Raw.mk s n d).valid = decide (Raw.mk s n d).good := by unfold Raw.valid; rw [if_neg (fun h => en h.1)]
    by_cases ed : d = []
    · subst ed
      have hv : (Raw.mk s n []).valid = false := by rw [hv0]; exact decide_eq_false fun h => h.2.1 rfl
      rw [hv]
      exact Spec.of_run hG Tryz.func42 (ro := [1]) (m := 40) [.eq 8 (eqB (len_ne en)), .eq 27 (eqB (len_ne en))] (by kernel_rfl)
    · have v1 := Valid_raw (G := G) hG hn (by omega)
      have v2 := Valid_raw (G := G) hG hd (by omega)
      cases f1 : Full n with
      | false =>
        rw [f1] at v1
        have hv : (Raw.mk s n d).valid = false := by
          rw [hv0]
          refine decide_eq_false fun h => ?_
          have h3 : n = words (val n) := h.2.2.1
          rw [h3, Full_words] at f1; cases f1
        rw [hv]
        exact Spec.of_run hG Tryz.func42 (ro := [1]) (m := 40) [.eq 8 (eqB (len_ne en)), .eq 27 (eqB (len_ne en)), .eq 32 (eqB (len_ne ed)), .call v1] (by kernel_rfl)
      | true =>
        rw [f1] at v1
        cases f2 : Full d with
        | false =>
          rw [f2] at v2
          have hv : (Raw.mk s n d).valid = false := by
            rw [hv0]
            refine decide_eq_false fun h => ?_
            have h3 : d = words (val d) := h.2.2.2.1
            rw [h3, Full_words] at f2; cases f2
          rw [hv]
          exact Spec.of_run hG Tryz.func42 (ro := [1]) (m := 40) [.eq 8 (eqB (len_ne en)), .eq 27 (eqB (len_ne en)), .eq 32 (eqB (len_ne ed)), .call v1, .call v2] (by kernel_rfl)
        | true =>
          rw [f2] at v2
          obtain ⟨N, rfl⟩ := full_get f1
          obtain ⟨M, rfl⟩ := full_get f2
          have hN : 0 < N := by rcases Nat.eq_zero_or_pos N with e | e; (· subst e; exact absurd rfl en); exact e
          have hM : 0 < M := by rcases Nat.eq_zero_or_pos M with e | e; (· subst e; exact absurd rfl ed); exact e
          have szg : Sz (Nat.gcd N M) := by unfold Sz; exact len_gcd (by omega) (by omega)
          have g1 := Gcd_wv (G := G) hG (s := false) (t := false) (m := N) (n := M) (by simp) (by simp) (by unfold Sz; omega) (by unfold Sz; omega)
          have hv : (Raw.mk s (words N) (words M)).valid = decide (Nat.gcd N M = 1) := by rw [hv0]; exact decide_eq_decide.2 (good_iff s N M hN hM)
          rw [hv]
          exact Spec.of_run hG Tryz.func42 (ro := [1]) (m := 40)
            [.eq 8 (eqB (len_ne en)), .eq 27 (eqB (len_ne en)), .eq 32 (eqB (len_ne ed)), .call v1, .call v2, .call g1, .call (one_spec hG), .call (Cmp_one hG szg), .eq 49 (eqB (cmp_one (Nat.gcd N M)))] (by kernel_rfl)

/-! ### Parts -/
theorem app_need (n : Nat) (h : n ≤ 2 ^ 36) (l : List D) (hl : l.length = n) : ([] : List D).length = 0 * 1 ∧ l.length = n * 1 ∧ 0 + n ≤ 2 ^ 62 ∧ (0 + n) * 4 ≤ 2 ^ 47 := by
  have h36 : (2:Nat) ^ 36 = 68719476736 := by decide
  have h62 : (2:Nat) ^ 62 = 4611686018427387904 := by decide
  have h47 : (2:Nat) ^ 47 = 140737488355328 := by decide
  exact ⟨rfl, by omega, by omega, by omega⟩
theorem app_row (l : List Nat) : D.row (0 + l.length) false ([] ++ l.map u32) = rowW l := by unfold rowW; rw [Nat.zero_add, List.nil_append]
theorem Raw.bad {r : Raw} (h : ¬ r.good) : r.valid = false ∨ r = ⟨false, [], []⟩ := by
  obtain ⟨s, n, d⟩ := r
  unfold Raw.valid
  split
  · rename_i hh
    simp only at hh
    obtain ⟨rfl, rfl⟩ := hh
    cases s with
    | true => exact .inl rfl
    | false => exact .inr rfl
  · exact .inl (decide_eq_false h)
theorem Raw.good_valid {r : Raw} (h : r.good) : r.valid = true := by
  unfold Raw.valid
  rw [if_neg (fun hh => h.1 hh.1)]
  exact decide_eq_true h
theorem Parts_spec (hG : Steady G) {r : Raw} {k : Nat} (hr : r.ok k) (hk : k ≤ KB) : Spec Tryz.prog G 66 [r.dat] (.tup [W r.q.num, W r.q.den]) := by
  have h36 : (2:Nat) ^ 36 = 68719476736 := by decide
  have hv := FValid_spec (G := G) hG hr hk
  by_cases hg : r.good
  · obtain ⟨e1, e2⟩ := Raw.q_parts hg
    have p1 := Raw.good_num hg
    have p2 := Raw.good_den hg
    rw [Raw.good_valid hg] at hv
    rw [e1, e2, W_mk (fun _ => p1), W_nat]
    obtain ⟨s, n, d⟩ := r
    obtain ⟨-, -, ln, ld, -⟩ := hr
    obtain ⟨g1, g2, g3, g4, -⟩ := hg
    simp only at ln ld g1 g2 g3 g4 p1 p2 ⊢
    rw [KB_eq] at hk
    have w1 : wv s (val n) = .agg [bool s, rowW n] := by unfold wv; rw [← g3]
    have w2 : wv (false && decide (0 < val d)) (val d) = .agg [bool false, rowW d] := by unfold wv; rw [← g4]; rfl
    rw [w1, w2]
    exact Spec.of_run hG Tryz.func66 (ro := [1, 20, 26]) (m := 40)
      [.call hv, .eq 11 (eqB (len_ne g1)), .prop (p := 0 < 1 ∧ 1 ≤ 3) (by decide), .prop (p := 0 < 1 ∧ 1 ≤ 2) (by decide), .prop (app_need n.length (by omega) (n.map u32) (by simp)), .eq 20 (app_row n), .prop (p := 0 + 2 ≤ 2) (by decide), .prop (p := 0 < 2 ∧ 0 + 2 ≤ 2) (by decide), .prop (p := 0 < 1 ∧ 1 ≤ 1) (by decide), .prop (app_need d.length (by omega) (d.map u32) (by simp)), .eq 26 (app_row d)] (by kernel_rfl)
  · rw [Raw.q_zero hg]
    rcases Raw.bad hg with h | h
    · rw [h] at hv
      exact Spec.of_run hG Tryz.func66 (ro := [1]) (m := 40) [.call hv, .call (one_spec hG)] (by kernel_rfl)
    · subst h
      exact Spec.of_run hG Tryz.func66 (ro := [1]) (m := 40) [.call hv, .call (one_spec hG)] (by kernel_rfl)

/-! ### form -/
theorem form_pos (hG : Steady G) {s : Bool} {m e : Nat} (hm0 : 0 < m) (he0 : 0 < e) (hm : Sz m) (he : Sz e) :
    Spec Tryz.prog G 71 [wv s m, wv false e] (.agg [bool s, rowW (words (m / Nat.gcd m e)), rowW (words (e / Nat.gcd m e))]) := by
  have hgp : 0 < Nat.gcd m e := Nat.gcd_pos_of_pos_left _ hm0
  have szg : Sz (Nat.gcd m e) := by unfold Sz at *; exact len_gcd hm he
  have c1 := sign_wv (G := G) hG (s := s) (n := m) (fun _ => hm0) hm.le36
  have c2 := sign_wv (G := G) hG (s := false) (n := e) (by simp) he.le36
  rw [if_neg (by omega)] at c1 c2
  have c3 := Gcd_wv (G := G) hG (s := s) (t := false) (m := m) (n := e) (fun _ => hm0) (by simp) hm he
  have c4 := Div_nat (G := G) hG hgp hm szg
  have c5 := Div_nat (G := G) hG hgp he szg
  cases s with
  | false => exact Spec.of_run hG Tryz.func71 (ro := []) (m := 40) [.call c1, .call c2, .call c3, .call c1, .call c4, .call c5] (by kernel_rfl)
  | true =>
    have c6 := Neg_wv (G := G) hG (s := true) (n := m) (fun _ => hm0) hm.le36
    exact Spec.of_run hG Tryz.func71 (ro := []) (m := 40) [.call c1, .call c2, .call c3, .call c1, .call c6, .call c4, .call c5] (by kernel_rfl)
theorem form_neg (hG : Steady G) {s : Bool} {m e : Nat} (hm0 : 0 < m) (he0 : 0 < e) (hm : Sz m) (he : Sz e) :
    Spec Tryz.prog G 71 [wv s m, wv true e] (.agg [bool !s, rowW (words (m / Nat.gcd m e)), rowW (words (e / Nat.gcd m e))]) := by
  have hgp : 0 < Nat.gcd m e := Nat.gcd_pos_of_pos_left _ hm0
  have szg : Sz (Nat.gcd m e) := by unfold Sz at *; exact len_gcd hm he
  have c1 := sign_wv (G := G) hG (s := s) (n := m) (fun _ => hm0) hm.le36
  have c1' := sign_wv (G := G) hG (s := !s) (n := m) (fun _ => hm0) hm.le36
  have c2 := sign_wv (G := G) hG (s := true) (n := e) (fun _ => he0) he.le36
  rw [if_neg (by omega)] at c1 c1' c2
  have c3 := Gcd_wv (G := G) hG (s := !s) (t := false) (m := m) (n := e) (fun _ => hm0) (by simp) hm he
  have c4 := Div_nat (G := G) hG hgp hm szg
  have c5 := Div_nat (G := G) hG hgp he szg
  have n1 := Neg_wv (G := G) hG (s := s) (n := m) (fun _ => hm0) hm.le36
  have n2 := Neg_wv (G := G) hG (s := true) (n := e) (fun _ => he0) he.le36
  have dm : decide (0 < m) = true := decide_eq_true hm0
  rw [dm, Bool.and_true] at n1
  cases s with
  | true => exact Spec.of_run hG Tryz.func71 (ro := []) (m := 40) [.call c1, .call c2, .call n1, .call n2, .call c3, .call c1', .call c4, .call c5] (by kernel_rfl)
  | false =>
    have c6 := Neg_wv (G := G) hG (s := true) (n := m) (fun _ => hm0) hm.le36
    exact Spec.of_run hG Tryz.func71 (ro := []) (m := 40) [.call c1, .call c2, .call n1, .call n2, .call c3, .call c1', .call c6, .call c4, .call c5] (by kernel_rfl)
theorem form_zero (hG : Steady G) (d : Int) : Spec Tryz.prog G 71 [W 0, W d] (F 0) := by
  have c1 := Sign_spec (G := G) hG (i := 0) (by unfold SzI Sz; decide)
  exact Spec.of_run hG Tryz.func71 (ro := [3]) (m := 40) [.call c1] (by kernel_rfl)
theorem dec_neg (s : Bool) {m : Nat} (h : 0 < m) : decide (mkI s m < 0) = s := by
  cases s with
  | false => exact decide_eq_false (by show ¬ (m : Int) < 0; omega)
  | true => exact decide_eq_true (by show -(m : Int) < 0; omega)
theorem mkI_ne (s : Bool) {m : Nat} (h : 0 < m) : mkI s m ≠ 0 := by cases s <;> simp [mkI] <;> omega
/-- A quotient of integers. -/
theorem form_spec (hG : Steady G) {n d : Int} (hd0 : d ≠ 0) (hn : SzI n) (hd : SzI d) : Spec Tryz.prog G 71 [W n, W d] (F (Rat.divInt n d)) := by
  by_cases h0 : n = 0
  · subst h0; rw [Rat.zero_divInt]; exact form_zero hG _
  · obtain ⟨s, m, rfl, hs, hm⟩ := mk_of n
    obtain ⟨t, e, rfl, ht, he⟩ := mk_of d
    unfold SzI at hn hd
    rw [← hm] at hn
    rw [← he] at hd
    have hm0 : 0 < m := by rcases Nat.eq_zero_or_pos m with q | q; (· subst q; exact absurd (by cases s <;> rfl) h0); exact q
    have he0 : 0 < e := by rcases Nat.eq_zero_or_pos e with q | q; (· subst q; exact absurd (by cases t <;> rfl) hd0); exact q
    rw [W_mk hs, W_mk ht]
    cases t with
    | false =>
      rw [F_of (mkI_ne s hm0) (by show (0:Int) < (e : Int); omega), dec_neg s hm0, mkI_abs, mkI_abs]
      have eg : Int.gcd (mkI s m) (mkI false e) = Nat.gcd m e := by unfold Int.gcd; rw [mkI_abs, mkI_abs]
      rw [eg]
      exact form_pos hG hm0 he0 hn hd
    | true =>
      have e1 : mkI s m = -(mkI (!s) m) := by cases s <;> simp [mkI]
      have e2 : mkI true e = -(mkI false e) := rfl
      rw [e1, e2, Rat.neg_divInt_neg, F_of (mkI_ne (!s) hm0) (by show (0:Int) < (e : Int); omega), dec_neg (!s) hm0, mkI_abs, mkI_abs]
      have eg : Int.gcd (mkI (!s) m) (mkI false e) = Nat.gcd m e := by unfold Int.gcd; rw [mkI_abs, mkI_abs]
      rw [eg]
      exact form_neg hG hm0 he0 hn hd
end Lw

namespace Lw
open Go Go.RowKit Go.Proofs

variable {G : World → Prop}

/-! ### Numbers -/
theorem add_parts (a b : Rat) : Rat.divInt (a.num * b.den + b.num * a.den) ((a.den : Int) * b.den) = a + b := by
  rw [Rat.add_def', ← Int.natCast_mul, Rat.divInt_ofNat]
theorem mul_parts (a b : Rat) : Rat.divInt (a.num * b.num) ((a.den : Int) * b.den) = a * b := by
  rw [Rat.mul_def', ← Int.natCast_mul, Rat.divInt_ofNat]
theorem neg_parts (a : Rat) : Rat.divInt (-a.num) a.den = -a := by rw [← Rat.neg_divInt, Rat.num_divInt_den]
theorem div_parts (a b : Rat) : Rat.divInt (a.num * b.den) ((a.den : Int) * b.num) = a / b := by
  rw [Rat.div_def, Rat.inv_def]
  conv => rhs; rw [← Rat.num_divInt_den a]
  rw [Rat.divInt_mul_divInt]
theorem den_ne (a : Rat) : ((a.den : Nat) : Int) ≠ 0 := by have := a.den_pos; omega
theorem dens_ne (a b : Rat) : ((a.den : Nat) : Int) * (b.den : Nat) ≠ 0 := by rw [← Int.natCast_mul]; have := Nat.mul_pos a.den_pos b.den_pos; omega
theorem ofI (n : Int) : Rat.divInt n 1 = (n : Rat) := by
  have := Rat.num_divInt_den (n : Rat)
  rw [Rat.num_intCast, Rat.den_intCast] at this
  exact this
def absQ (a : Rat) : Rat := if a < 0 then -a else a
theorem sgn_lt_true {a : Rat} (h : a < 0) : decide (sgn a < 0) = true := decide_eq_true (sgn_neg.2 h)
theorem sgn_lt_false {a : Rat} (h : ¬ a < 0) : decide (sgn a < 0) = false := decide_eq_false fun hh => h (sgn_neg.1 hh)
theorem cmpQ_ge {a b : Rat} : 0 ≤ cmpQ a b ↔ b ≤ a := by
  unfold cmpQ
  split
  · rename_i h; rw [← Rat.not_lt]; exact ⟨fun hh => by omega, fun hh => absurd h hh⟩
  · rename_i h
    rw [Rat.not_lt] at h
    split
    · exact ⟨fun _ => h, fun _ => by omega⟩
    · exact ⟨fun _ => h, fun _ => by omega⟩
theorem min_of {a b : Rat} : min a b = if cmpQ a b ≤ 0 then a else b := by
  rw [Rat.min_def]
  by_cases h : a ≤ b
  · rw [if_pos h, if_pos (cmpQ_le.2 h)]
  · rw [if_neg h, if_neg (fun hh => h (cmpQ_le.1 hh))]
theorem max_of {a b : Rat} : max a b = if 0 ≤ cmpQ a b then a else b := by
  rw [Rat.max_def]
  by_cases h : a ≤ b
  · rw [if_pos h]
    by_cases h2 : b ≤ a
    · rw [if_pos (cmpQ_ge.2 h2)]; exact Rat.le_antisymm h2 h
    · rw [if_neg (fun hh => h2 (cmpQ_ge.1 hh))]
  · have h2 : b ≤ a := by rcases Rat.le_total (a := a) (b := b) with q | q; exact absurd q h; exact q
    rw [if_neg h, if_pos (cmpQ_ge.2 h2)]

/-! ### Sizes of what is reckoned with -/
theorem IsQ.num {k : Nat} {x : D} {a : Rat} (h : IsQ k x a) (hk : k ≤ KB) : SzI a.num := by
  have h1 := h.sz.1
  rw [KB_eq] at hk
  unfold SzI Sz
  have h30 : (2:Nat) ^ 30 = 1073741824 := by decide
  omega
theorem IsQ.den {k : Nat} {x : D} {a : Rat} (h : IsQ k x a) (hk : k ≤ KB) : SzI ((a.den : Nat) : Int) := by
  have h1 := h.sz.2.1
  rw [KB_eq] at hk
  unfold SzI Sz
  have h30 : (2:Nat) ^ 30 = 1073741824 := by decide
  rw [Int.natAbs_natCast]; omega
theorem szI_mul {k l : Nat} {i j : Int} (hi : (words i.natAbs).length ≤ k) (hj : (words j.natAbs).length ≤ l) (hk : k ≤ KB) (hl : l ≤ KB) : SzI (i * j) := by
  have := len_mulI (a := i) (b := j)
  rw [KB_eq] at hk hl
  unfold SzI Sz
  have h30 : (2:Nat) ^ 30 = 1073741824 := by decide
  omega
theorem IsQ.dlen {k : Nat} {x : D} {a : Rat} (h : IsQ k x a) : (words ((a.den : Nat) : Int).natAbs).length ≤ k := by rw [Int.natAbs_natCast]; exact h.sz.2.1
theorem szI_sum {k l : Nat} {x y : D} {a b : Rat} (hx : IsQ k x a) (hy : IsQ l y b) (hk : k ≤ KB) (hl : l ≤ KB) : SzI (a.num * b.den + b.num * a.den) := by
  have h1 := len_mulI (a := a.num) (b := ((b.den : Nat) : Int))
  have h2 := len_mulI (a := b.num) (b := ((a.den : Nat) : Int))
  have h3 := len_addI (a := a.num * b.den) (b := b.num * a.den)
  have := hx.sz.1
  have := hy.sz.1
  have := hx.dlen
  have := hy.dlen
  rw [KB_eq] at hk hl
  unfold SzI Sz
  have h30 : (2:Nat) ^ 30 = 1073741824 := by decide
  omega
theorem IsQ.parts {k : Nat} {x : D} {a : Rat} (hG : Steady G) (h : IsQ k x a) (hk : k ≤ KB) : Spec Tryz.prog G 66 [x] (.tup [W a.num, W a.den]) := by
  obtain ⟨r, rfl, hr, rfl⟩ := h; exact Parts_spec hG hr hk

/-! ### The functions -/
theorem FAdd_spec (hG : Steady G) {k l : Nat} {x y : D} {a b : Rat} (hx : IsQ k x a) (hy : IsQ l y b) (hk : k ≤ KB) (hl : l ≤ KB) : Spec Tryz.prog G 112 [x, y] (F (a + b)) := by
  have p1 := hx.parts hG hk
  have p2 := hy.parts hG hl
  have m1 := Mul_spec (G := G) hG (hx.num hk) (hy.den hl)
  have m2 := Mul_spec (G := G) hG (hy.num hl) (hx.den hk)
  have m3 := Mul_spec (G := G) hG (hx.den hk) (hy.den hl)
  have s1 := Add_spec (G := G) hG (szI_mul hx.sz.1 hy.dlen hk hl) (szI_mul hy.sz.1 hx.dlen hl hk)
  have f1 := form_spec (G := G) hG (dens_ne a b) (szI_sum hx hy hk hl) (szI_mul hx.dlen hy.dlen hk hl)
  rw [add_parts] at f1
  obtain ⟨r, rfl, -, rfl⟩ := hx
  obtain ⟨q, rfl, -, rfl⟩ := hy
  exact Spec.of_run hG Tryz.func112 (ro := [2, 3]) (m := 40) [.call p1, .call p2, .call m1, .call m2, .call s1, .call m3, .call f1] (by kernel_rfl)
theorem FMul_spec (hG : Steady G) {k l : Nat} {x y : D} {a b : Rat} (hx : IsQ k x a) (hy : IsQ l y b) (hk : k ≤ KB) (hl : l ≤ KB) : Spec Tryz.prog G 45 [x, y] (F (a * b)) := by
  have p1 := hx.parts hG hk
  have p2 := hy.parts hG hl
  have m1 := Mul_spec (G := G) hG (hx.num hk) (hy.num hl)
  have m3 := Mul_spec (G := G) hG (hx.den hk) (hy.den hl)
  have f1 := form_spec (G := G) hG (dens_ne a b) (szI_mul hx.sz.1 hy.sz.1 hk hl) (szI_mul hx.dlen hy.dlen hk hl)
  rw [mul_parts] at f1
  obtain ⟨r, rfl, -, rfl⟩ := hx
  obtain ⟨q, rfl, -, rfl⟩ := hy
  exact Spec.of_run hG Tryz.func45 (ro := [2, 3]) (m := 40) [.call p1, .call p2, .call m1, .call m3, .call f1] (by kernel_rfl)
theorem FNeg_spec (hG : Steady G) {k : Nat} {x : D} {a : Rat} (hx : IsQ k x a) (hk : k ≤ KB) : Spec Tryz.prog G 134 [x] (F (-a)) := by
  have p1 := hx.parts hG hk
  have n1 := Neg_spec (G := G) hG (hx.num hk)
  have f1 := form_spec (G := G) hG (den_ne a) (n := -a.num) (by have := hx.num hk; unfold SzI at this ⊢; rw [Int.natAbs_neg]; exact this) (hx.den hk)
  rw [neg_parts] at f1
  obtain ⟨r, rfl, -, rfl⟩ := hx
  exact Spec.of_run hG Tryz.func134 (ro := [1]) (m := 40) [.call p1, .call n1, .call f1] (by kernel_rfl)
theorem FSub_spec (hG : Steady G) {k l : Nat} {x y : D} {a b : Rat} (hx : IsQ k x a) (hy : IsQ l y b) (hk : k ≤ KB) (hl : l ≤ KB) : Spec Tryz.prog G 70 [x, y] (F (a - b)) := by
  have n1 := FNeg_spec hG hy hl
  have s1 := FAdd_spec hG hx hy.sz.neg.isQ hk hl
  rw [← Rat.sub_eq_add_neg] at s1
  obtain ⟨r, rfl, -, rfl⟩ := hx
  obtain ⟨q, rfl, -, rfl⟩ := hy
  exact Spec.of_run hG Tryz.func70 (ro := [2, 3]) (m := 40) [.call n1, .call s1] (by kernel_rfl)
theorem FSign_spec (hG : Steady G) {k : Nat} {x : D} {a : Rat} (hx : IsQ k x a) (hk : k ≤ KB) : Spec Tryz.prog G 43 [x] (int (sgn a)) := by
  have p1 := hx.parts hG hk
  have n1 := Sign_spec (G := G) hG (hx.num hk)
  obtain ⟨r, rfl, -, rfl⟩ := hx
  exact Spec.of_run hG Tryz.func43 (ro := [1]) (m := 40) [.call p1, .call n1] (by kernel_rfl)
theorem FCmp_spec (hG : Steady G) {k l : Nat} {x y : D} {a b : Rat} (hx : IsQ k x a) (hy : IsQ l y b) (hk : k ≤ KB) (hl : l ≤ KB) : Spec Tryz.prog G 25 [x, y] (int (cmpQ a b)) := by
  have p1 := hx.parts hG hk
  have p2 := hy.parts hG hl
  have m1 := Mul_spec (G := G) hG (hx.num hk) (hy.den hl)
  have m2 := Mul_spec (G := G) hG (hy.num hl) (hx.den hk)
  have c1 := Cmp_spec (G := G) hG (szI_mul hx.sz.1 hy.dlen hk hl) (szI_mul hy.sz.1 hx.dlen hl hk)
  rw [cmpQ_parts] at c1
  obtain ⟨r, rfl, -, rfl⟩ := hx
  obtain ⟨q, rfl, -, rfl⟩ := hy
  exact Spec.of_run hG Tryz.func25 (ro := [2, 3]) (m := 40) [.call p1, .call p2, .call m1, .call m2, .call c1] (by kernel_rfl)
theorem FSame_form (hG : Steady G) {k : Nat} {x : D} {a : Rat} (hx : IsQ k x a) (hk : k ≤ KB) : Spec Tryz.prog G 71 [W a.num, W a.den] (F a) := by
  have f1 := form_spec (G := G) hG (den_ne a) (hx.num hk) (hx.den hk)
  rwa [Rat.num_divInt_den] at f1
theorem szI_one : SzI 1 := by unfold SzI Sz; decide
theorem szI_small {i : Int} (h : -9223372036854775808 ≤ i) (h' : i < 9223372036854775808) : SzI i := by
  unfold SzI Sz
  have h1 : (words i.natAbs).length ≤ 2 := (len_le_iff _ _).2 (by rw [show BP 2 = 18446744073709551616 from rfl]; omega)
  have h30 : (2:Nat) ^ 30 = 1073741824 := by decide
  omega
theorem FOf_spec (hG : Steady G) {i : Int} (h : -9223372036854775808 ≤ i) (h' : i < 9223372036854775808) : Spec Tryz.prog G 28 [int i] (F (i : Rat)) := by
  have f1 := form_spec (G := G) hG (n := i) (d := 1) (by omega) (szI_small h h') szI_one
  rw [ofI] at f1
  exact Spec.of_run hG Tryz.func28 (ro := []) (m := 40) [.call (Of_spec hG h h'), .call (one_spec hG), .call f1] (by kernel_rfl)
theorem sign_ne {i : Int} (h : i ≠ 0) : (i.sign == 0) = false := by rw [beq_eq_false_iff_ne]; intro hh; exact h (Int.sign_eq_zero_iff_zero.1 hh)
theorem From_spec (hG : Steady G) {n d : Int} (hd0 : d ≠ 0) (hn : SzI n) (hd : SzI d) : Spec Tryz.prog G 61 [W n, W d] (.tup [F (Rat.divInt n d), .lit .nilIface]) :=
  Spec.of_run hG Tryz.func61 (ro := [2, 3]) (m := 40) [.call (Sign_spec hG hd), .eq 8 (eqB (sign_ne hd0)), .call (form_spec hG hd0 hn hd)] (by kernel_rfl)
theorem From_zero (hG : Steady G) {n : Int} : Spec Tryz.prog G 61 [W n, W 0] (.tup [F 0, errno 8]) :=
  Spec.of_run hG Tryz.func61 (ro := [2, 3]) (m := 40) [.call (Sign_spec (G := G) hG (i := 0) (by unfold SzI Sz; decide))] (by kernel_rfl)
theorem FMake_spec (hG : Steady G) {i j : Int} (h : -9223372036854775808 ≤ i) (h' : i < 9223372036854775808) (g : -9223372036854775808 ≤ j) (g' : j < 9223372036854775808) (hj : j ≠ 0) :
    Spec Tryz.prog G 24 [int i, int j] (.tup [F (Rat.divInt i j), .lit .nilIface]) :=
  Spec.of_run hG Tryz.func24 (ro := []) (m := 40) [.call (Of_spec hG h h'), .call (Of_spec hG g g'), .call (From_spec hG hj (szI_small h h') (szI_small g g'))] (by kernel_rfl)
theorem FDiv_spec (hG : Steady G) {k l : Nat} {x y : D} {a b : Rat} (hx : IsQ k x a) (hy : IsQ l y b) (hk : k ≤ KB) (hl : l ≤ KB) (hb : b ≠ 0) :
    Spec Tryz.prog G 320 [x, y] (.tup [F (a / b), .lit .nilIface]) := by
  have p1 := hx.parts hG hk
  have p2 := hy.parts hG hl
  have m1 := Mul_spec (G := G) hG (hx.num hk) (hy.den hl)
  have m2 := Mul_spec (G := G) hG (hx.den hk) (hy.num hl)
  have hne : ((a.den : Nat) : Int) * b.num ≠ 0 := Int.mul_ne_zero (den_ne a) (fun h => hb (Rat.num_eq_zero.1 h))
  have f1 := From_spec (G := G) hG hne (szI_mul hx.sz.1 hy.dlen hk hl) (szI_mul hx.dlen hy.sz.1 hk hl)
  rw [div_parts] at f1
  obtain ⟨r, rfl, -, rfl⟩ := hx
  obtain ⟨q, rfl, -, rfl⟩ := hy
  exact Spec.of_run hG Tryz.func320 (ro := [2, 3]) (m := 40) [.call p1, .call p2, .call m1, .call m2, .call f1] (by kernel_rfl)
theorem FDiv_zero (hG : Steady G) {k l : Nat} {x y : D} {a : Rat} (hx : IsQ k x a) (hy : IsQ l y 0) (hk : k ≤ KB) (hl : l ≤ KB) :
    Spec Tryz.prog G 320 [x, y] (.tup [F 0, errno 8]) := by
  have p1 := hx.parts hG hk
  have p2 := hy.parts hG hl
  have m1 := Mul_spec (G := G) hG (hx.num hk) (hy.den hl)
  have m2 := Mul_spec (G := G) hG (hx.den hk) (hy.num hl)
  rw [Rat.zero_num, Int.mul_zero] at m2
  obtain ⟨r, rfl, -, rfl⟩ := hx
  obtain ⟨q, rfl, -, hq⟩ := hy
  exact Spec.of_run hG Tryz.func320 (ro := [2, 3]) (m := 40) [.call p1, .call p2, .call m1, .call m2, .call (From_zero hG (n := r.q.num * ((0 : Rat).den : Nat)))] (by kernel_rfl)
end Lw

namespace Lw
open Go Go.RowKit Go.Proofs

variable {G : World → Prop}

theorem rone_spec (hG : Steady G) : Spec Tryz.prog G 104 [] (W 1) :=
  Spec.of_run hG Tryz.func104 (ro := []) (m := 30) [.call (ROf_spec hG (i := 1) (by omega) (by omega))] (by kernel_rfl)
theorem plain_nil (hG : Steady G) : Spec Tryz.prog G 101 [rowW []] (bool false) :=
  Spec.of_run hG Tryz.func101 (ro := []) (m := 30) [] (by kernel_rfl)
theorem plain_spec (hG : Steady G) {l : List Nat} (hl : Dig l) (h1 : l.length ≤ 2 ^ 36) (h : l ≠ []) : Spec Tryz.prog G 101 [rowW l] (bool (Full l)) := by
  have h36 : (2:Nat) ^ 36 = 68719476736 := by decide
  have hp : 0 < l.length := List.length_pos_iff.2 h
  rw [full_last hl h]
  exact Spec.of_run hG Tryz.func101 (ro := []) (m := 30)
    [.eq 5 (eqB (x := decide (Int.ofNat l.length > 0)) (y := true) (by simp; omega)), .eq 10 (eqS (nat_pred (i := l.length) (by omega) hp)), .prop (at_need (l := l) (i := l.length - 1) (by omega)), .prop (load_need (l := l) (i := l.length - 1) (by omega)), .eq 12 (headD_need (l := l) (i := l.length - 1) (by omega)),
     .eq 13 (eqB (x := (Int.ofNat (l.getD (l.length - 1) 0) != 0)) (y := !(l.getD (l.length - 1) 0 == 0)) (by rw [Bool.eq_iff_iff]; simp))] (by kernel_rfl)
theorem RGcd_wv (hG : Steady G) {s t : Bool} {m n : Nat} (hs : s = true → 0 < m) (ht : t = true → 0 < n) (hm : Sz m) (hn : Sz n) : Spec Tryz.prog G 103 [wv s m, wv t n] (wv false (Nat.gcd m n)) := by
  have h := RGcd_spec (G := G) hG (i := mkI s m) (j := mkI t n) (by unfold SzI; rw [mkI_abs]; exact hm) (by unfold SzI; rw [mkI_abs]; exact hn)
  rw [W_mk hs, W_mk ht, W_nat] at h
  have e : Int.gcd (mkI s m) (mkI t n) = Nat.gcd m n := by unfold Int.gcd; rw [mkI_abs, mkI_abs]
  rw [e] at h
  exact h
theorem RCmp_one (hG : Steady G) {g : Nat} (h : (words g).length < 2 ^ 30) : Spec Tryz.prog G 102 [wv false g, W 1] (int (cmpZ (g : Int) 1)) := by
  have := RCmp_spec (G := G) hG (i := (g : Int)) (j := 1) h (by decide)
  rw [W_nat] at this
  exact this

/-! ### Valid -/
theorem RFValid_spec (hG : Steady G) {r : Raw} {k : Nat} (hr : r.ok k) (hk : k ≤ KB) : Spec Tryz.prog G 40 [r.dat] (bool r.valid) := by
  have h30 : (2:Nat) ^ 30 = 1073741824 := by decide
  have h36 : (2:Nat) ^ 36 = 68719476736 := by decide
  obtain ⟨s, n, d⟩ := r
  obtain ⟨hn, hd, ln, ld, -⟩ := hr
  simp only at hn hd ln ld
  rw [KB_eq] at hk
  by_cases en : n = []
  · subst en
    by_cases ed : d = []
    · subst ed
      exact Spec.of_run hG Tryz.func40 (ro := [1]) (m := 40) [] (by kernel_rfl)
    · have hv : (Raw.mk s [] d).valid = false := by
        unfold Raw.valid
        rw [if_neg (fun h => ed h.2)]
        exact decide_eq_false fun h => h.1 rfl
      rw [hv]
      exact Spec.of_run hG Tryz.func40 (ro := [1]) (m := 40) [.eq 11 (eqB (len_ne ed)), .call (plain_nil hG)] (by kernel_rfl)
  · have hv0 : (Raw.mk s n d).valid = decide (Raw.mk s n d).good := by unfold Raw.valid; rw [if_neg (fun h => en h.1)]
    have v1 := plain_spec (G := G) hG hn (by omega) en
    cases f1 : Full n with
    | false =>
      rw [f1] at v1
      have hv : (Raw.mk s n d).valid = false := by
        rw [hv0]
        refine decide_eq_false fun h => ?_
        have h3 : n = words (val n) := h.2.2.1
        rw [h3, Full_words] at f1; cases f1
      rw [hv]
      exact Spec.of_run hG Tryz.func40 (ro := [1]) (m := 40) [.eq 6 (eqB (len_ne en)), .call v1] (by kernel_rfl)
    | true =>
      rw [f1] at v1
      by_cases ed : d = []
      · subst ed
        have hv : (Raw.mk s n []).valid = false := by rw [hv0]; exact decide_eq_false fun h => h.2.1 rfl
        rw [hv]
        exact Spec.of_run hG Tryz.func40 (ro := [1]) (m := 40) [.eq 6 (eqB (len_ne en)), .call v1, .call (plain_nil hG)] (by kernel_rfl)
      · have v2 := plain_spec (G := G) hG hd (by omega) ed
        cases f2 : Full d with
        | false =>
          rw [f2] at v2
          have hv : (Raw.mk s n d).valid = false := by
            rw [hv0]
            refine decide_eq_false fun h => ?_
            have h3 : d = words (val d) := h.2.2.2.1
            rw [h3, Full_words] at f2; cases f2
          rw [hv]
          exact Spec.of_run hG Tryz.func40 (ro := [1]) (m := 40) [.eq 6 (eqB (len_ne en)), .call v1, .call v2] (by kernel_rfl)
        | true =>
          rw [f2] at v2
          obtain ⟨N, rfl⟩ := full_get f1
          obtain ⟨M, rfl⟩ := full_get f2
          have hN : 0 < N := by rcases Nat.eq_zero_or_pos N with e | e; (· subst e; exact absurd rfl en); exact e
          have hM : 0 < M := by rcases Nat.eq_zero_or_pos M with e | e; (· subst e; exact absurd rfl ed); exact e
          have szg : (words (Nat.gcd N M)).length < 2 ^ 30 := by have := len_gcd (k := k) ln ld; omega
          have g1 := RGcd_wv (G := G) hG (s := false) (t := false) (m := N) (n := M) (by simp) (by simp) (by unfold Sz; omega) (by unfold Sz; omega)
          have hv : (Raw.mk s (words N) (words M)).valid = decide (Nat.gcd N M = 1) := by rw [hv0]; exact decide_eq_decide.2 (good_iff s N M hN hM)
          rw [hv]
          exact Spec.of_run hG Tryz.func40 (ro := [1]) (m := 40)
            [.eq 6 (eqB (len_ne en)), .call v1, .call v2, .call g1, .call (rone_spec hG), .call (RCmp_one hG szg), .eq 34 (eqB (cmp_one (Nat.gcd N M)))] (by kernel_rfl)
theorem RParts_spec (hG : Steady G) {r : Raw} {k : Nat} (hr : r.ok k) (hk : k ≤ KB) : Spec Tryz.prog G 105 [r.dat] (.tup [W r.q.num, W r.q.den]) := by
  have hv := RFValid_spec (G := G) hG hr hk
  by_cases hg : r.good
  · obtain ⟨e1, e2⟩ := Raw.q_parts hg
    have p1 := Raw.good_num hg
    have p2 := Raw.good_den hg
    rw [Raw.good_valid hg] at hv
    rw [e1, e2, W_mk (fun _ => p1), W_nat]
    obtain ⟨s, n, d⟩ := r
    obtain ⟨g1, g2, g3, g4, -⟩ := hg
    simp only at g1 g2 g3 g4 p1 p2 ⊢
    have w1 : wv s (val n) = .agg [bool s, rowW n] := by unfold wv; rw [← g3]
    have w2 : wv (false && decide (0 < val d)) (val d) = .agg [bool false, rowW d] := by unfold wv; rw [← g4]; rfl
    rw [w1, w2]
    exact Spec.of_run hG Tryz.func105 (ro := [1]) (m := 40) [.call hv, .eq 11 (eqB (len_ne g1))] (by kernel_rfl)
  · rw [Raw.q_zero hg]
    rcases Raw.bad hg with h | h
    · rw [h] at hv
      exact Spec.of_run hG Tryz.func105 (ro := [1]) (m := 40) [.call hv, .call (rone_spec hG)] (by kernel_rfl)
    · subst h
      exact Spec.of_run hG Tryz.func105 (ro := [1]) (m := 40) [.call hv, .call (rone_spec hG)] (by kernel_rfl)

/-! ### form -/
theorem RDiv_exact (hG : Steady G) {s : Bool} {m g : Nat} (hm0 : 0 < m) (hg0 : 0 < g) (hd : g ∣ m) (hm : Sz m) (hg : Sz g) :
    Spec Tryz.prog G 326 [wv s m, wv false g] (.tup [wv s (m / g), wv (false && decide (0 < m % g)) (m % g), int 0]) := by
  have h := RDiv_even (G := G) hG (s := s) (t := false) (m := m) (n := g) (fun _ => hm0) (by simp) hg0 hm hg (.inr (Nat.mod_eq_zero_of_dvd hd))
  have hp : 0 < m / g := Nat.div_pos (Nat.le_of_dvd hm0 hd) hg0
  rw [decide_eq_true hp, Bool.and_true, Bool.xor_false] at h
  exact h
theorem rform_pos (hG : Steady G) {s : Bool} {m e : Nat} (hm0 : 0 < m) (he0 : 0 < e) (hm : Sz m) (he : Sz e) :
    Spec Tryz.prog G 298 [wv s m, wv false e] (.agg [bool s, rowW (words (m / Nat.gcd m e)), rowW (words (e / Nat.gcd m e))]) := by
  have hgp : 0 < Nat.gcd m e := Nat.gcd_pos_of_pos_left _ hm0
  have szg : Sz (Nat.gcd m e) := by unfold Sz at *; exact len_gcd hm he
  have c1 := Rsign_wv (G := G) hG (s := s) (n := m) (fun _ => hm0) hm.le36
  have c2 := Rsign_wv (G := G) hG (s := false) (n := e) (by simp) he.le36
  rw [if_neg (by omega)] at c1 c2
  have c3 := RGcd_wv (G := G) hG (s := s) (t := false) (m := m) (n := e) (fun _ => hm0) (by simp) hm he
  have c4 := RDiv_exact (G := G) hG (s := s) hm0 hgp (Nat.gcd_dvd_left m e) hm szg
  have c5 := RDiv_exact (G := G) hG (s := false) he0 hgp (Nat.gcd_dvd_right m e) he szg
  cases s <;> exact Spec.of_run hG Tryz.func298 (ro := []) (m := 40) [.call c1, .call c2, .call c3, .call c4, .call c5] (by kernel_rfl)
theorem rform_neg (hG : Steady G) {s : Bool} {m e : Nat} (hm0 : 0 < m) (he0 : 0 < e) (hm : Sz m) (he : Sz e) :
    Spec Tryz.prog G 298 [wv s m, wv true e] (.agg [bool !s, rowW (words (m / Nat.gcd m e)), rowW (words (e / Nat.gcd m e))]) := by
  have hgp : 0 < Nat.gcd m e := Nat.gcd_pos_of_pos_left _ hm0
  have szg : Sz (Nat.gcd m e) := by unfold Sz at *; exact len_gcd hm he
  have c1 := Rsign_wv (G := G) hG (s := s) (n := m) (fun _ => hm0) hm.le36
  have c2 := Rsign_wv (G := G) hG (s := true) (n := e) (fun _ => he0) he.le36
  rw [if_neg (by omega)] at c1 c2
  have c3 := RGcd_wv (G := G) hG (s := !s) (t := false) (m := m) (n := e) (fun _ => hm0) (by simp) hm he
  have c4 := RDiv_exact (G := G) hG (s := !s) hm0 hgp (Nat.gcd_dvd_left m e) hm szg
  have c5 := RDiv_exact (G := G) hG (s := false) he0 hgp (Nat.gcd_dvd_right m e) he szg
  have n1 := RNeg_wv (G := G) hG (s := s) (n := m) (fun _ => hm0) hm.le36
  have n2 := RNeg_wv (G := G) hG (s := true) (n := e) (fun _ => he0) he.le36
  rw [decide_eq_true hm0, Bool.and_true] at n1
  cases s <;> exact Spec.of_run hG Tryz.func298 (ro := []) (m := 40) [.call c1, .call c2, .call n1, .call n2, .call c3, .call c4, .call c5] (by kernel_rfl)
theorem rform_zero (hG : Steady G) (d : Int) : Spec Tryz.prog G 298 [W 0, W d] (F 0) := by
  have c1 := RSign_spec (G := G) hG (i := 0) (by unfold SzI Sz; decide)
  exact Spec.of_run hG Tryz.func298 (ro := [3]) (m := 40) [.call c1] (by kernel_rfl)
theorem rfrm_spec (hG : Steady G) {n d : Int} (hd0 : d ≠ 0) (hn : SzI n) (hd : SzI d) : Spec Tryz.prog G 298 [W n, W d] (F (Rat.divInt n d)) := by
  by_cases h0 : n = 0
  · subst h0; rw [Rat.zero_divInt]; exact rform_zero hG _
  · obtain ⟨s, m, rfl, hs, hm⟩ := mk_of n
    obtain ⟨t, e, rfl, ht, he⟩ := mk_of d
    unfold SzI at hn hd
    rw [← hm] at hn
    rw [← he] at hd
    have hm0 : 0 < m := by rcases Nat.eq_zero_or_pos m with q | q; (· subst q; exact absurd (by cases s <;> rfl) h0); exact q
    have he0 : 0 < e := by rcases Nat.eq_zero_or_pos e with q | q; (· subst q; exact absurd (by cases t <;> rfl) hd0); exact q
    rw [W_mk hs, W_mk ht]
    cases t with
    | false =>
      rw [F_of (mkI_ne s hm0) (by show (0:Int) < (e : Int); omega), dec_neg s hm0, mkI_abs, mkI_abs]
      have eg : Int.gcd (mkI s m) (mkI false e) = Nat.gcd m e := by unfold Int.gcd; rw [mkI_abs, mkI_abs]
      rw [eg]
      exact rform_pos hG hm0 he0 hn hd
    | true =>
      have e1 : mkI s m = -(mkI (!s) m) := by cases s <;> simp [mkI]
      have e2 : mkI true e = -(mkI false e) := rfl
      rw [e1, e2, Rat.neg_divInt_neg, F_of (mkI_ne (!s) hm0) (by show (0:Int) < (e : Int); omega), dec_neg (!s) hm0, mkI_abs, mkI_abs]
      have eg : Int.gcd (mkI (!s) m) (mkI false e) = Nat.gcd m e := by unfold Int.gcd; rw [mkI_abs, mkI_abs]
      rw [eg]
      exact rform_neg hG hm0 he0 hn hd
theorem IsQ.rparts {k : Nat} {x : D} {a : Rat} (hG : Steady G) (h : IsQ k x a) (hk : k ≤ KB) : Spec Tryz.prog G 105 [x] (.tup [W a.num, W a.den]) := by
  obtain ⟨r, rfl, hr, rfl⟩ := h; exact RParts_spec hG hr hk

theorem RFAdd_spec (hG : Steady G) {k l : Nat} {x y : D} {a b : Rat} (hx : IsQ k x a) (hy : IsQ l y b) (hk : k ≤ KB) (hl : l ≤ KB) : Spec Tryz.prog G 241 [x, y] (F (a + b)) := by
  have p1 := hx.rparts hG hk
  have p2 := hy.rparts hG hl
  have m1 := RMul_spec (G := G) hG (hx.num hk) (hy.den hl)
  have m2 := RMul_spec (G := G) hG (hy.num hl) (hx.den hk)
  have m3 := RMul_spec (G := G) hG (hx.den hk) (hy.den hl)
  have s1 := RAdd_spec (G := G) hG (szI_mul hx.sz.1 hy.dlen hk hl) (szI_mul hy.sz.1 hx.dlen hl hk)
  have f1 := rfrm_spec (G := G) hG (dens_ne a b) (szI_sum hx hy hk hl) (szI_mul hx.dlen hy.dlen hk hl)
  rw [add_parts] at f1
  obtain ⟨r, rfl, -, rfl⟩ := hx
  obtain ⟨q, rfl, -, rfl⟩ := hy
  exact Spec.of_run hG Tryz.func241 (ro := [2, 3]) (m := 40) [.call p1, .call p2, .call m1, .call m2, .call s1, .call m3, .call f1] (by kernel_rfl)
theorem RFMul_spec (hG : Steady G) {k l : Nat} {x y : D} {a b : Rat} (hx : IsQ k x a) (hy : IsQ l y b) (hk : k ≤ KB) (hl : l ≤ KB) : Spec Tryz.prog G 242 [x, y] (F (a * b)) := by
  have p1 := hx.rparts hG hk
  have p2 := hy.rparts hG hl
  have m1 := RMul_spec (G := G) hG (hx.num hk) (hy.num hl)
  have m3 := RMul_spec (G := G) hG (hx.den hk) (hy.den hl)
  have f1 := rfrm_spec (G := G) hG (dens_ne a b) (szI_mul hx.sz.1 hy.sz.1 hk hl) (szI_mul hx.dlen hy.dlen hk hl)
  rw [mul_parts] at f1
  obtain ⟨r, rfl, -, rfl⟩ := hx
  obtain ⟨q, rfl, -, rfl⟩ := hy
  exact Spec.of_run hG Tryz.func242 (ro := [2, 3]) (m := 40) [.call p1, .call p2, .call m1, .call m3, .call f1] (by kernel_rfl)
theorem RFNeg_spec (hG : Steady G) {k : Nat} {x : D} {a : Rat} (hx : IsQ k x a) (hk : k ≤ KB) : Spec Tryz.prog G 243 [x] (F (-a)) := by
  have p1 := hx.rparts hG hk
  have n1 := RNeg_spec (G := G) hG (hx.num hk)
  have f1 := rfrm_spec (G := G) hG (den_ne a) (n := -a.num) (by have := hx.num hk; unfold SzI at this ⊢; rw [Int.natAbs_neg]; exact this) (hx.den hk)
  rw [neg_parts] at f1
  obtain ⟨r, rfl, -, rfl⟩ := hx
  exact Spec.of_run hG Tryz.func243 (ro := [1]) (m := 40) [.call p1, .call n1, .call f1] (by kernel_rfl)
theorem RFSub_spec (hG : Steady G) {k l : Nat} {x y : D} {a b : Rat} (hx : IsQ k x a) (hy : IsQ l y b) (hk : k ≤ KB) (hl : l ≤ KB) : Spec Tryz.prog G 244 [x, y] (F (a - b)) := by
  have n1 := RFNeg_spec hG hy hl
  have s1 := RFAdd_spec hG hx hy.sz.neg.isQ hk hl
  rw [← Rat.sub_eq_add_neg] at s1
  obtain ⟨r, rfl, -, rfl⟩ := hx
  obtain ⟨q, rfl, -, rfl⟩ := hy
  exact Spec.of_run hG Tryz.func244 (ro := [2, 3]) (m := 40) [.call n1, .call s1] (by kernel_rfl)
theorem RFSign_spec (hG : Steady G) {k : Nat} {x : D} {a : Rat} (hx : IsQ k x a) (hk : k ≤ KB) : Spec Tryz.prog G 41 [x] (int (sgn a)) := by
  have p1 := hx.rparts hG hk
  have n1 := RSign_spec (G := G) hG (hx.num hk)
  obtain ⟨r, rfl, -, rfl⟩ := hx
  exact Spec.of_run hG Tryz.func41 (ro := [1]) (m := 40) [.call p1, .call n1] (by kernel_rfl)
theorem RFCmp_spec (hG : Steady G) {k l : Nat} {x y : D} {a b : Rat} (hx : IsQ k x a) (hy : IsQ l y b) (hkl : k + l < KB) : Spec Tryz.prog G 187 [x, y] (int (cmpQ a b)) := by
  have s1 := RFSub_spec hG hx hy (by omega) (by omega)
  have c1 := RFSign_spec hG (hx.sz.sub hy.sz).isQ (by omega)
  rw [cmpQ_sub] at c1
  obtain ⟨r, rfl, -, rfl⟩ := hx
  obtain ⟨q, rfl, -, rfl⟩ := hy
  exact Spec.of_run hG Tryz.func187 (ro := [2, 3]) (m := 40) [.call s1, .call c1] (by kernel_rfl)
theorem rat_add0 (a : Rat) : a + 0 = a := Rat.add_zero a
theorem isQ_zero : IsQ 1 (F 0) 0 := (sz_zero (by omega)).isQ
theorem RFAdd0 (hG : Steady G) {k : Nat} {x : D} {a : Rat} (hx : IsQ k x a) (hk : k ≤ KB) : Spec Tryz.prog G 241 [x, F 0] (F a) := by
  have := RFAdd_spec hG hx isQ_zero hk (by rw [KB_eq]; omega)
  rwa [rat_add0] at this
end Lw

namespace Lw
open Go Go.RowKit Go.Proofs

variable {G : World → Prop}

/-! ### Words -/
def wdsInv (l m : List Nat) (i : Nat) : St := lay 26 [(0, rowW l), (1, rowW m), (5, nat i)] []
theorem list_eq_of {l m : List Nat} (hl : l.length = m.length) (h : ∀ i, i < l.length → l.getD i 0 = m.getD i 0) : l = m := by
  refine List.ext_getElem hl fun i h1 h2 => ?_
  have := h i h1
  rw [List.getD_eq_getElem?_getD, List.getElem?_eq_getElem h1, List.getD_eq_getElem?_getD, List.getElem?_eq_getElem h2] at this
  exact this
/-! ### Rat -/
theorem raw_eq (r q : Raw) : r = q ↔ r.s = q.s ∧ r.n = q.n ∧ r.d = q.d := by
  obtain ⟨a, b, c⟩ := r
  obtain ⟨d, e, f⟩ := q
  simp
instance (r q : Raw) : Decidable (r = q) := decidable_of_iff _ (raw_eq r q).symm
theorem rawOf_inj {a b : Rat} : rawOf a = rawOf b ↔ a = b := ⟨fun h => by rw [← rawOf_q a, h, rawOf_q], fun h => by rw [h]⟩
/-! ### Errors -/
theorem Num_nil (hG : Steady G) : Spec Tryz.prog G 15 [.lit .nilIface] (int 0) :=
  Spec.of_run hG Tryz.func15 (ro := []) (m := 30) [] (by kernel_rfl)
theorem Num_err (hG : Steady G) (k : Int) : Spec Tryz.prog G 15 [errno k] (int k) :=
  Spec.of_run hG Tryz.func15 (ro := []) (m := 30) [] (by kernel_rfl)
theorem Is_nil (hG : Steady G) (k : Int) : Spec Tryz.prog G 49 [.lit .nilIface, int k] (bool (0 == k)) :=
  Spec.of_run hG Tryz.func49 (ro := []) (m := 30) [.call (Num_nil hG)] (by kernel_rfl)
theorem Is_err (hG : Steady G) (j k : Int) : Spec Tryz.prog G 49 [errno j, int k] (bool (j == k)) :=
  Spec.of_run hG Tryz.func49 (ro := []) (m := 30) [.call (Num_err hG j)] (by kernel_rfl)

/-! ### Grids -/
theorem len_two {b : Nat} (hb : b ≤ 256) : (words (2 ^ b)).length ≤ 9 := by rw [words_pow_len]; omega
theorem szI_two {b : Nat} (hb : b ≤ 256) : SzI ((2 ^ b : Nat) : Int) := by
  have := len_two hb
  unfold SzI Sz
  have h30 : (2:Nat) ^ 30 = 1073741824 := by decide
  rw [Int.natAbs_natCast]; omega
theorem two_ne (b : Nat) : ((2 ^ b : Nat) : Int) ≠ 0 := by have := Nat.two_pow_pos b; omega
/-- The greatest multiple of 2^-b that is at most a. -/
def gridQ (a : Rat) (b : Nat) : Rat := Rat.divInt (a * (((2 ^ b : Nat) : Int) : Rat)).floor ((2 ^ b : Nat) : Int)
theorem sz_int {k : Nat} {n : Int} (h0 : 0 < k) (h : (words n.natAbs).length ≤ k) : SzQ k (n : Rat) := by
  unfold SzQ
  rw [Rat.num_intCast, Rat.den_intCast]
  exact ⟨h, by rw [len_one]; omega, h0⟩
theorem floor_le_num (a : Rat) : a.floor.natAbs ≤ a.num.natAbs := by
  rw [Rat.floor_def]; exact Int.natAbs_ediv_le_natAbs _ _
theorem sz_floor {k : Nat} {a : Rat} (h : SzQ k a) : (words a.floor.natAbs).length ≤ k := Nat.le_trans (len_mono (floor_le_num a)) h.1
theorem SzQ.grid {k b : Nat} {a : Rat} (h : SzQ k a) (hb : b ≤ 256) : SzQ (k + 9) (gridQ a b) := by
  have h2 := sz_int (k := 9) (n := ((2 ^ b : Nat) : Int)) (by omega) (by rw [Int.natAbs_natCast]; exact len_two hb)
  have h3 := sz_floor (h.mul h2)
  unfold gridQ
  exact sz_divInt (by omega) h3 (by rw [Int.natAbs_natCast]; have := len_two hb; omega)
end Lw

namespace Lw
open Go Go.RowKit Go.Proofs

variable {G : World → Prop}

theorem valid_canon {r : Raw} (h : r.valid = true) : r = rawOf r.q := by
  by_cases hg : r.good
  · obtain ⟨e1, e2⟩ := Raw.q_parts hg
    have p1 := Raw.good_num hg
    obtain ⟨-, -, g3, g4, -⟩ := id hg
    unfold rawOf
    rw [e1, e2, if_neg (mkI_ne _ p1), dec_neg _ p1, mkI_abs, ← g3, ← g4]
  · rcases Raw.bad hg with hb | hb
    · rw [hb] at h; cases h
    · subst hb; rfl
theorem rawOf_valid (q : Rat) : (rawOf q).valid = true := by
  by_cases h : q.num = 0
  · have e : rawOf q = ⟨false, [], []⟩ := by unfold rawOf; rw [if_pos h]
    rw [e]; rfl
  · exact Raw.good_valid (rawOf_good h)

/-- The fields of an interval. -/
structure RRaw where
  lo : Raw
  hi : Raw
def RRaw.dat (r : RRaw) : D := .agg [bool r.lo.s, rowW r.lo.n, rowW r.lo.d, bool r.hi.s, rowW r.hi.n, rowW r.hi.d]
def RRaw.ok (k : Nat) (r : RRaw) : Prop := r.lo.ok k ∧ r.hi.ok k
def RRaw.valid (r : RRaw) : Bool := r.lo.valid && (r.hi.valid && decide (r.lo.q ≤ r.hi.q))
def RRaw.L (r : RRaw) : Rat := if r.valid then r.lo.q else 0
def RRaw.H (r : RRaw) : Rat := if r.valid then r.hi.q else 0
/-- Such data stands for the interval a..b. -/
def IsI (k : Nat) (x : D) (a b : Rat) : Prop := ∃ r : RRaw, x = r.dat ∧ r.ok k ∧ r.L = a ∧ r.H = b
def rrOf (a b : Rat) : RRaw := ⟨rawOf a, rawOf b⟩
def FR (a b : Rat) : D := (rrOf a b).dat
theorem rrOf_valid {a b : Rat} (h : a ≤ b) : (rrOf a b).valid = true := by
  unfold RRaw.valid rrOf
  simp only [rawOf_valid, rawOf_q, Bool.true_and]
  exact decide_eq_true h
theorem FR_isI {k : Nat} {a b : Rat} (ha : SzQ k a) (hb : SzQ k b) (h : a ≤ b) : IsI k (FR a b) a b := by
  refine ⟨rrOf a b, rfl, ⟨ha.ok, hb.ok⟩, ?_, ?_⟩
  · unfold RRaw.L; rw [if_pos (rrOf_valid h)]; exact rawOf_q a
  · unfold RRaw.H; rw [if_pos (rrOf_valid h)]; exact rawOf_q b
theorem IsI.le {k : Nat} {x : D} {a b : Rat} (h : IsI k x a b) : a ≤ b := by
  obtain ⟨r, -, -, rfl, rfl⟩ := h
  unfold RRaw.L RRaw.H
  cases hv : r.valid with
  | false => exact Rat.le_refl
  | true =>
    unfold RRaw.valid at hv
    simp only [Bool.and_eq_true, decide_eq_true_eq] at hv
    exact hv.2.2
theorem RRaw.canon {r : RRaw} (h : r.valid = true) : r = rrOf r.lo.q r.hi.q := by
  obtain ⟨l, u⟩ := r
  unfold RRaw.valid at h
  simp only [Bool.and_eq_true, decide_eq_true_eq] at h
  unfold rrOf
  simp only
  rw [← valid_canon h.1, ← valid_canon h.2.1]
theorem IsI.szL {k : Nat} {x : D} {a b : Rat} (h : IsI k x a b) : SzQ k a ∧ SzQ k b := by
  obtain ⟨r, -, ⟨h1, h2⟩, rfl, rfl⟩ := h
  unfold RRaw.L RRaw.H
  split
  · exact ⟨h1.sz, h2.sz⟩
  · exact ⟨sz_zero h1.2.2.2.2, sz_zero h1.2.2.2.2⟩
theorem IsI.isI {k : Nat} {x : D} {a b : Rat} (h : IsI k x a b) : IsI k (FR a b) a b := FR_isI h.szL.1 h.szL.2 h.le
theorem Raw.ok.isQ {k : Nat} {r : Raw} (h : r.ok k) : IsQ k r.dat r.q := ⟨r, rfl, h, rfl⟩

/-! ### Valid -/
theorem IValid_spec (hG : Steady G) {k : Nat} {r : RRaw} (hr : r.ok k) (hk : k ≤ KB) : Spec Tryz.prog G 137 [r.dat] (bool r.valid) := by
  have v1 := FValid_spec (G := G) hG hr.1 hk
  have v2 := FValid_spec (G := G) hG hr.2 hk
  have c := FCmp_spec hG (Raw.ok.isQ hr.1) (Raw.ok.isQ hr.2) hk hk
  have ev : r.valid = (r.lo.valid && (r.hi.valid && decide (r.lo.q ≤ r.hi.q))) := rfl
  have ec : decide (cmpQ r.lo.q r.hi.q ≤ 0) = decide (r.lo.q ≤ r.hi.q) := decide_eq_decide.2 cmpQ_le
  rw [ev]
  cases h1 : r.lo.valid with
  | false =>
    rw [h1] at v1
    exact Spec.of_run hG Tryz.func137 (ro := [1]) (m := 40) [.call v1] (by kernel_rfl)
  | true =>
    rw [h1] at v1
    cases h2 : r.hi.valid with
    | false =>
      rw [h2] at v2
      exact Spec.of_run hG Tryz.func137 (ro := [1]) (m := 40) [.call v1, .call v2] (by kernel_rfl)
    | true =>
      rw [h2] at v2
      exact Spec.of_run hG Tryz.func137 (ro := [1]) (m := 40) [.call v1, .call v2, .call c, .eq 17 (eqB ec)] (by kernel_rfl)
theorem FAdd0 (hG : Steady G) {k : Nat} {x : D} {a : Rat} (hx : IsQ k x a) (hk : k ≤ KB) : Spec Tryz.prog G 112 [x, F 0] (F a) := by
  have := FAdd_spec hG hx isQ_zero hk (by rw [KB_eq]; omega)
  rwa [rat_add0] at this
theorem clean_spec (hG : Steady G) {k : Nat} {x : D} {a b : Rat} (hx : IsI k x a b) (hk : k ≤ KB) : Spec Tryz.prog G 69 [x] (FR a b) := by
  obtain ⟨r, rfl, hr, rfl, rfl⟩ := hx
  have v := IValid_spec (G := G) hG hr hk
  unfold RRaw.L RRaw.H
  cases hv : r.valid with
  | false =>
    rw [hv] at v
    rw [if_neg (by simp)]
    exact Spec.of_run hG Tryz.func69 (ro := [1]) (m := 40) [.call v] (by kernel_rfl)
  | true =>
    rw [hv] at v
    rw [if_pos rfl, if_pos rfl]
    exact Spec.of_run hG Tryz.func69 (ro := [1]) (m := 40) [.call v, .call (FAdd0 hG (Raw.ok.isQ hr.1) hk), .call (FAdd0 hG (Raw.ok.isQ hr.2) hk)] (by kernel_rfl)
/-! ### Contains -/
theorem le_dec (a b : Rat) : decide (cmpQ a b ≤ 0) = decide (a ≤ b) := decide_eq_decide.2 cmpQ_le
/-! ### Products -/
def mulLo (a b c d : Rat) : Rat := min (min (min (a * c) (a * d)) (b * c)) (b * d)
def mulHi (a b c d : Rat) : Rat := max (max (max (a * c) (a * d)) (b * c)) (b * d)
theorem SzQ.min {k : Nat} {a b : Rat} (ha : SzQ k a) (hb : SzQ k b) : SzQ k (min a b) := by rw [min_of]; split; (· exact ha); exact hb
theorem SzQ.max {k : Nat} {a b : Rat} (ha : SzQ k a) (hb : SzQ k b) : SzQ k (max a b) := by rw [max_of]; split; (· exact ha); exact hb
end Lw

namespace Lw
open Go Go.RowKit Go.Proofs

variable {G : World → Prop}

/-! ### Floors -/
theorem floor_divInt {n d : Int} (hd : 0 < d) : (Rat.divInt n d).floor = n / d := by
  have key : ∀ x : Int, x ≤ (Rat.divInt n d).floor ↔ x ≤ n / d := by
    intro x
    have hd' : (0 : Rat) < (d : Rat) := Rat.intCast_pos.2 hd
    rw [Rat.le_floor_iff, ← Rat.not_lt, Rat.divInt_eq_div, Rat.div_lt_iff hd', ← Rat.intCast_mul, Rat.intCast_lt_intCast, Int.not_lt, Int.le_ediv_iff_mul_le hd]
  exact Int.le_antisymm ((key _).1 (Int.le_refl _)) ((key _).2 (Int.le_refl _))
theorem mul_int (a : Rat) (n : Int) : a * (n : Rat) = Rat.divInt (a.num * n) a.den := by
  conv => lhs; rw [← Rat.num_divInt_den a, ← ofI n]
  rw [Rat.divInt_mul_divInt, Int.mul_one]
theorem floor_mul (a : Rat) (n : Int) : (a * (n : Rat)).floor = a.num * n / (a.den : Int) := by
  rw [mul_int, floor_divInt (by have := a.den_pos; omega)]

/-! ### The reference's grid -/
def cW (n : Int) : List D := [bool (decide (n < 0)), rowW (words n.natAbs)]
def cF (q : Rat) : List D := [bool (rawOf q).s, rowW (rawOf q).n, rowW (rawOf q).d]
def zeroF : List D := [bool false, rowW [], rowW []]
theorem two_next (i : Nat) : ((2 ^ (i + 1) : Nat) : Int) = ((2 ^ i : Nat) : Int) + ((2 ^ i : Nat) : Int) := by rw [Nat.pow_succ]; omega
def rgrInv (r : Raw) (b i : Nat) : St := lay 46 [(2, .rptr [bool r.s, rowW r.n, rowW r.d]), (4, .ptr 0 0), (6, .ptr 1 0), (20, nat b), (21, nat i)] [(0, zeroF), (1, cW ((2 ^ i : Nat) : Int))]
/-! ### Out -/
end Lw

namespace Lw
open Go Go.RowKit Go.Proofs

variable {G : World → Prop}

/-! ### Plain laws -/
def twoQ (n : Nat) : Rat := ((((2 ^ n : Nat) : Int)) : Rat)
theorem twoQ_next (i : Nat) : twoQ (i + 1) = twoQ i + twoQ i := by unfold twoQ; rw [two_next, Rat.intCast_add]
theorem twoQ_pos (n : Nat) : 0 < twoQ n := Rat.intCast_pos.2 (by have := Nat.two_pow_pos n; omega)
theorem sz_twoQ {n : Nat} (h : n ≤ 256) : SzQ 9 (twoQ n) := sz_int (by omega) (by rw [Int.natAbs_natCast]; exact len_two h)
def sqQ (n : Nat) : Rat := twoQ n * twoQ n
theorem sqQ_pos (n : Nat) : 0 < sqQ n := Rat.mul_pos (twoQ_pos n) (twoQ_pos n)
/-- The least number whose square is at least t. -/
noncomputable def isqUp (t : Int) : Int := if ((isq t.natAbs : Nat) : Int) * ((isq t.natAbs : Nat) : Int) < t then ((isq t.natAbs : Nat) : Int) + 1 else ((isq t.natAbs : Nat) : Int)
noncomputable def rootLo (a : Rat) (n : Nat) : Rat := (((isq (a * sqQ n).floor.natAbs : Nat) : Int) : Rat) / twoQ n
noncomputable def rootHi (b : Rat) (n : Nat) : Rat := ((isqUp (-(-(b * sqQ n)).floor) : Int) : Rat) / twoQ n
theorem floor_nonneg {a : Rat} (h : 0 ≤ a) : 0 ≤ a.floor := Rat.le_floor_iff.2 h
theorem ceil_cases (T : Rat) : (-(-T).floor = T.floor ∧ (T.floor : Rat) = T) ∨ (-(-T).floor = T.floor + 1 ∧ (T.floor : Rat) < T) := by
  have h1 := Rat.floor_le T
  have h2 := Rat.lt_floor_add_one T
  have h3 := Rat.floor_le (-T)
  have h4 := Rat.lt_floor_add_one (-T)
  rw [Rat.intCast_add] at h2 h4
  generalize hf : T.floor = f at *
  generalize hg : (-T).floor = g at *
  have k1 : ((f + g : Int) : Rat) ≤ ((0 : Int) : Rat) := by rw [Rat.intCast_add]; have : ((0:Int):Rat) = 0 := rfl; grind
  have k2 : ((-2 : Int) : Rat) < ((f + g : Int) : Rat) := by rw [Rat.intCast_add]; have : ((-2:Int):Rat) = -2 := rfl; have : ((1:Int):Rat) = 1 := rfl; grind
  rw [Rat.intCast_le_intCast] at k1
  rw [Rat.intCast_lt_intCast] at k2
  have k3 : f + g = 0 ∨ f + g = -1 := by omega
  rcases k3 with k3 | k3
  · left
    refine ⟨by omega, ?_⟩
    have : g = -f := by omega
    rw [this, Rat.intCast_neg] at h3
    grind
  · right
    refine ⟨by omega, ?_⟩
    have hne : (f : Rat) ≠ T := fun e => by
      rw [← e, ← Rat.intCast_neg, Rat.floor_intCast] at hg
      omega
    exact Rat.lt_of_le_of_ne h1 hne
/-- The reference's way to the same number. -/
theorem up_other {T : Rat} (hT : 0 ≤ T) : isqUp (-(-T).floor) = if (((((isq T.floor.natAbs : Nat) : Int) * ((isq T.floor.natAbs : Nat) : Int) : Int)) : Rat) < T then ((isq T.floor.natAbs : Nat) : Int) + 1 else ((isq T.floor.natAbs : Nat) : Int) := by
  have hf := floor_nonneg hT
  obtain ⟨f, hff⟩ : ∃ f : Nat, T.floor = (f : Int) := ⟨T.floor.natAbs, by omega⟩
  have i1 := isq_le f
  have i2 := isq_lt f
  rcases ceil_cases T with ⟨e, h⟩ | ⟨e, h⟩
  · rw [e]
    unfold isqUp
    rw [hff] at h ⊢
    rw [Int.natAbs_natCast, ← h]
    simp only [Rat.intCast_lt_intCast]
  · rw [e]
    rw [hff] at h ⊢
    rw [Int.natAbs_natCast]
    have hm : ((((isq f : Nat) : Int) * ((isq f : Nat) : Int) : Int) : Rat) < T := by
      have : ((((isq f : Nat) : Int) * ((isq f : Nat) : Int) : Int) : Rat) ≤ ((f : Int) : Rat) := Rat.intCast_le_intCast.2 (by rw [← Int.natCast_mul]; omega)
      grind
    rw [if_pos hm]
    unfold isqUp
    have en : ((f : Int) + 1).natAbs = f + 1 := by omega
    rw [en]
    by_cases hq : (isq f + 1) * (isq f + 1) ≤ f + 1
    · have hi : isq (f + 1) = isq f + 1 := isq_unique hq (by
        have : (isq f + 1 + 1) * (isq f + 1 + 1) = (isq f + 1) * (isq f + 1) + 2 * (isq f + 1) + 1 := by grind
        omega)
      rw [hi, if_neg (by rw [← Int.natCast_mul]; omega)]
      omega
    · have hi : isq (f + 1) = isq f := isq_unique (by omega) (by omega)
      rw [hi, if_pos (by rw [← Int.natCast_mul]; omega)]

/-! ### The scale -/
def zeroI : List D := [bool false, rowW [], rowW [], bool false, rowW [], rowW []]
def cR (a b : Rat) : List D := [bool (rawOf a).s, rowW (rawOf a).n, rowW (rawOf a).d, bool (rawOf b).s, rowW (rawOf b).n, rowW (rawOf b).d]
def rsInv (a c : Rat) (b i : Nat) : St := lay 113 [(2, .ptr 0 0), (4, .ptr 1 0), (6, .ptr 2 0), (33, nat b), (34, nat i)] [(0, cR a c), (1, zeroI), (2, cF (twoQ i))]
def rrsInv (a c : Rat) (b i : Nat) : St := lay 99 [(2, .ptr 0 0), (4, .ptr 1 0), (6, .ptr 2 0), (35, nat b), (36, nat i)] [(0, cR a c), (1, zeroI), (2, cW ((2 ^ i : Nat) : Int))]
/-! ### Root -/
def RK : Nat := 1000000
theorem RK_eq : RK = 1000000 := rfl
theorem szI_of {k : Nat} {i : Int} (h : (words i.natAbs).length ≤ k) (hk : k ≤ KB) : SzI i := by
  rw [KB_eq] at hk
  unfold SzI Sz
  have h30 : (2:Nat) ^ 30 = 1073741824 := by decide
  omega
theorem len_isq (n : Nat) : (words (isq n)).length ≤ (words n).length := len_mono (isq_le_self n)
theorem rat_le_neg {a : Rat} (h : ¬ a < 0) : 0 ≤ a := by rw [Rat.not_lt] at h; exact h
theorem cmpZ_lt_true {i j : Int} (h : i < j) : decide (cmpZ i j < 0) = true := by unfold cmpZ; rw [if_pos h]; rfl
theorem cmpZ_lt_false {i j : Int} (h : ¬ i < j) : decide (cmpZ i j < 0) = false := by unfold cmpZ; rw [if_neg h]; split <;> rfl
theorem cmpQ_lt_true {a b : Rat} (h : a < b) : decide (cmpQ a b < 0) = true := by unfold cmpQ; rw [if_pos h]; rfl
theorem cmpQ_lt_false {a b : Rat} (h : ¬ a < b) : decide (cmpQ a b < 0) = false := by unfold cmpQ; rw [if_neg h]; split <;> rfl
end Lw

namespace Lw
open Go Go.RowKit Go.Proofs

variable {G : World → Prop}

/-! ### Same -/
/-! ### Div -/
theorem one_div_pos_le {c d : Rat} (h : c ≤ d) (hc : ¬ (c ≤ 0 ∧ 0 ≤ d)) : c ≠ 0 ∧ d ≠ 0 ∧ ((1 : Int) : Rat) / d ≤ ((1 : Int) : Rat) / c := by
  have e1 : ((1 : Int) : Rat) = 1 := rfl
  rw [e1]
  have h0 : c ≠ 0 := fun e => hc ⟨by grind, by grind⟩
  have h1 : d ≠ 0 := fun e => hc ⟨by grind, by grind⟩
  refine ⟨h0, h1, ?_⟩
  have k1 : (1 / c) * c = 1 := Rat.div_mul_cancel h0
  have k2 : (1 / d) * d = 1 := Rat.div_mul_cancel h1
  generalize 1 / c = u at *
  generalize 1 / d = v at *
  have hsame : 0 < c * d := by
    by_cases hcp : 0 < c
    · exact Rat.mul_pos hcp (by grind)
    · have hcn : c < 0 := by grind
      have hdn : d < 0 := by
        rcases Rat.le_total (a := 0) (b := d) with q | q
        · exact absurd ⟨Rat.le_of_lt hcn, q⟩ hc
        · exact Rat.lt_of_le_of_ne q h1
      have := Rat.mul_pos (a := -c) (b := -d) (by grind) (by grind)
      grind
  have key : v * (c * d) ≤ u * (c * d) := by
    have a1 : v * (c * d) = c := by grind
    have a2 : u * (c * d) = d := by grind
    rw [a1, a2]; exact h
  exact Rat.le_of_mul_le_mul_right key hsame
theorem sz_one {k : Nat} (h : 0 < k) : SzQ k ((1 : Int) : Rat) := sz_int h (by show (words 1).length ≤ k; rw [len_one]; omega)
end Lw
