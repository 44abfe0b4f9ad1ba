/- The contract of the reference's greatest common divisor. No condition. -/
import Derived.Test.YtfdllnbmjlhliaaGreatDoorLwZg
namespace Lw
open Go Go.RowKit Go.Proofs

variable {G : World → Prop}

def gst (N0 N1 tw : Nat) (s : GS) : St :=
  lay 72 [(0, .gsl (cond s.sw 1 0) (words s.a).length 1), (1, .gsl (cond s.sw 0 1) (words s.b).length 1), (5, nat tw)] (blk2 s.sw (dcel (cond s.sw N1 N0) s.a) (dcel (cond s.sw N0 N1) s.b))
theorem zero_ix {a : Nat} (h : 0 < a) : (0:Int) ≤ 0 ∧ (0:Int) < ((words a).length : Int) := by
  have := words_len_pos (n := a) (by omega); omega
theorem zero_load {N a : Nat} (h : 0 < a) (hn : (words a).length ≤ N) : 0 < 1 ∧ 0 + 1 ≤ (dcel N a).length := by
  have := words_len_pos (n := a) (by omega)
  rw [dcel_len]; omega
theorem zero_get {N a : Nat} (h : 0 < a) (hn : (words a).length ≤ N) : ((dcel N a).drop 0).headD .any = u32 (a / BP 0 % 4294967296) := dcel_get (by have := words_len_pos (n := a) (by omega); omega)
theorem zero_and (a : Nat) : IntKind.wrap .u32 (((BitVec.ofInt (IntKind.bits .u32) (Int.ofNat (a / BP 0 % 4294967296)) &&& BitVec.ofInt (IntKind.bits .u32) 1).toNat : Nat) : Int) = Int.ofNat (a % 2) := by
  rw [and_one (Nat.mod_lt _ (by omega)), BP_zero, Nat.div_one]
  congr 1
  omega
theorem even_true {a : Nat} (h : a % 2 = 0) : (Int.ofNat (a % 2) == 0) = true := by rw [h]; rfl
theorem even_false {a : Nat} (h : ¬ a % 2 = 0) : (Int.ofNat (a % 2) == 0) = false := by rw [beq_eq_false_iff_ne]; simp only [Int.ofNat_eq_natCast]; omega
theorem len_half (a : Nat) : (words (a / 2)).length ≤ (words a).length := len_mono (Nat.div_le_self _ _)

/-! ### Twos taken from one number -/
theorem sa_round (hG : Steady G) {N0 N1 tw : Nat} {sw : Bool} {a b : Nat} (ha : 0 < a) (he : a % 2 = 0) (hn : (words a).length ≤ cond sw N1 N0) (h0 : N0 < 2 ^ 40) (h1 : N1 < 2 ^ 40) :
    Goes Tryz.prog G 0 (loopOf Tryz.f122 2) (gst N0 N1 tw ⟨sw, a, b⟩) .normal (gst N0 N1 tw ⟨sw, a / 2, b⟩) := by
  cases sw
  · exact Goes.of_run hG (ro := []) (m := 40) (lay_len ..)
      [.prop (zero_ix ha), .prop (zero_load ha hn), .eq 41 (zero_get ha hn), .eq 42 (eq32 (zero_and a)), .eq 43 (eqB (even_true he)),
       .inl [] Tryz.func143, .code (hal_loop hG false (x := a) (dcel N1 b) hn h0), .inl [] Tryz.func145, .code (cut_loop hG false (y := a / 2) (dcel N1 b) hn h0 (len_half a))] (by kernel_rfl)
  · exact Goes.of_run hG (ro := []) (m := 40) (lay_len ..)
      [.prop (zero_ix ha), .prop (zero_load ha hn), .eq 41 (zero_get ha hn), .eq 42 (eq32 (zero_and a)), .eq 43 (eqB (even_true he)),
       .inl [] Tryz.func143, .code (hal_loop hG true (x := a) (dcel N0 b) hn h1), .inl [] Tryz.func145, .code (cut_loop hG true (y := a / 2) (dcel N0 b) hn h1 (len_half a))] (by kernel_rfl)
theorem sa_last (hG : Steady G) {N0 N1 tw : Nat} {sw : Bool} {a b : Nat} (ha : 0 < a) (he : ¬ a % 2 = 0) (hn : (words a).length ≤ cond sw N1 N0) :
    Goes Tryz.prog G 0 (loopOf Tryz.f122 2) (gst N0 N1 tw ⟨sw, a, b⟩) (.exit 4) (gst N0 N1 tw ⟨sw, a, b⟩) := by
  cases sw <;> exact Goes.of_run hG (ro := []) (m := 40) (lay_len ..)
    [.prop (zero_ix ha), .prop (zero_load ha hn), .eq 41 (zero_get ha hn), .eq 42 (eq32 (zero_and a)), .eq 43 (eqB (even_false he))] (by kernel_rfl)
theorem pow_pos_of {a i : Nat} (ha : 0 < a) (h : ∀ k, k < i → a / 2 ^ k % 2 = 0) : 0 < a / 2 ^ i := by
  induction i with
  | zero => rw [Nat.pow_zero, Nat.div_one]; exact ha
  | succ i ih =>
    have h1 := ih fun k hk => h k (by omega)
    have h2 := h i (by omega)
    rw [half_step]; omega
theorem sa_loop (hG : Steady G) {N0 N1 tw : Nat} {sw : Bool} {a b : Nat} (ha : 0 < a) (hn : (words a).length ≤ cond sw N1 N0) (h0 : N0 < 2 ^ 40) (h1 : N1 < 2 ^ 40) :
    Abs Tryz.prog G 72 0 (.loop (loopOf Tryz.f122 2)) (gst N0 N1 tw ⟨sw, a, b⟩) (.exit 4) (gst N0 N1 tw ⟨sw, oddp a, b⟩) := by
  have hlen : ∀ i, (words (a / 2 ^ i)).length ≤ cond sw N1 N0 := fun i => Nat.le_trans (len_mono (Nat.div_le_self _ _)) hn
  have h := Abs.count (P := Tryz.prog) (Good := G) (gb := 0) (body := loopOf Tryz.f122 2) (e := .exit 4) (s' := gst N0 N1 tw ⟨sw, a / 2 ^ tz a, b⟩) (fun i => gst N0 N1 tw ⟨sw, a / 2 ^ i, b⟩) (tz a) (fun i => lay_len _ _ _) (by simp)
    (fun i hi => by
      have := sa_round (G := G) hG (tw := tw) (sw := sw) (b := b) (pow_pos_of ha fun k hk => tz_even ha (by omega)) (tz_even ha hi) (hlen i) h0 h1
      rwa [← half_step] at this)
    (sa_last hG (pow_pos_of ha fun k hk => tz_even ha hk) (by have := tz_odd ha; omega) (hlen _))
  simp only [Nat.pow_zero, Nat.div_one] at h
  exact h
theorem sb_round (hG : Steady G) {N0 N1 tw : Nat} {sw : Bool} {a b : Nat} (hb : 0 < b) (he : b % 2 = 0) (hn : (words b).length ≤ cond sw N0 N1) (h0 : N0 < 2 ^ 40) (h1 : N1 < 2 ^ 40) :
    Goes Tryz.prog G 0 (loopOf Tryz.f122 3) (gst N0 N1 tw ⟨sw, a, b⟩) .normal (gst N0 N1 tw ⟨sw, a, b / 2⟩) := by
  cases sw
  · exact Goes.of_run hG (ro := []) (m := 40) (lay_len ..)
      [.prop (zero_ix hb), .prop (zero_load hb hn), .eq 48 (zero_get hb hn), .eq 49 (eq32 (zero_and b)), .eq 50 (eqB (even_true he)),
       .inl [] Tryz.func143, .code (hal_loop hG true (x := b) (dcel N0 a) hn h1), .inl [] Tryz.func145, .code (cut_loop hG true (y := b / 2) (dcel N0 a) hn h1 (len_half b))] (by kernel_rfl)
  · exact Goes.of_run hG (ro := []) (m := 40) (lay_len ..)
      [.prop (zero_ix hb), .prop (zero_load hb hn), .eq 48 (zero_get hb hn), .eq 49 (eq32 (zero_and b)), .eq 50 (eqB (even_true he)),
       .inl [] Tryz.func143, .code (hal_loop hG false (x := b) (dcel N1 a) hn h0), .inl [] Tryz.func145, .code (cut_loop hG false (y := b / 2) (dcel N1 a) hn h0 (len_half b))] (by kernel_rfl)
theorem sb_last (hG : Steady G) {N0 N1 tw : Nat} {sw : Bool} {a b : Nat} (hb : 0 < b) (he : ¬ b % 2 = 0) (hn : (words b).length ≤ cond sw N0 N1) :
    Goes Tryz.prog G 0 (loopOf Tryz.f122 3) (gst N0 N1 tw ⟨sw, a, b⟩) (.exit 6) (gst N0 N1 tw ⟨sw, a, b⟩) := by
  cases sw <;> exact Goes.of_run hG (ro := []) (m := 40) (lay_len ..)
    [.prop (zero_ix hb), .prop (zero_load hb hn), .eq 48 (zero_get hb hn), .eq 49 (eq32 (zero_and b)), .eq 50 (eqB (even_false he))] (by kernel_rfl)
theorem sb_loop (hG : Steady G) {N0 N1 tw : Nat} {sw : Bool} {a b : Nat} (hb : 0 < b) (hn : (words b).length ≤ cond sw N0 N1) (h0 : N0 < 2 ^ 40) (h1 : N1 < 2 ^ 40) :
    Abs Tryz.prog G 72 0 (.loop (loopOf Tryz.f122 3)) (gst N0 N1 tw ⟨sw, a, b⟩) (.exit 6) (gst N0 N1 tw ⟨sw, a, oddp b⟩) := by
  have hlen : ∀ i, (words (b / 2 ^ i)).length ≤ cond sw N0 N1 := fun i => Nat.le_trans (len_mono (Nat.div_le_self _ _)) hn
  have h := Abs.count (P := Tryz.prog) (Good := G) (gb := 0) (body := loopOf Tryz.f122 3) (e := .exit 6) (s' := gst N0 N1 tw ⟨sw, a, b / 2 ^ tz b⟩) (fun i => gst N0 N1 tw ⟨sw, a, b / 2 ^ i⟩) (tz b) (fun i => lay_len _ _ _) (by simp)
    (fun i hi => by
      have := sb_round (G := G) hG (tw := tw) (sw := sw) (a := a) (pow_pos_of hb fun k hk => tz_even hb (by omega)) (tz_even hb hi) (hlen i) h0 h1
      rwa [← half_step] at this)
    (sb_last hG (pow_pos_of hb fun k hk => tz_even hb hk) (by have := tz_odd hb; omega) (hlen _))
  simp only [Nat.pow_zero, Nat.div_one] at h
  exact h

/-! ### The rounds of subtracting -/
theorem cmp_neg_true {a b : Nat} (h : a < b) : decide (cmpI a b < 0) = true := by unfold cmpI; rw [if_pos h]; rfl
theorem cmp_neg_false {a b : Nat} (h : ¬ a < b) : decide (cmpI a b < 0) = false := by
  unfold cmpI; rw [if_neg h]; split <;> rfl
theorem cmp_cells (hG : Steady G) {Na Nb a b : Nat} (ha : (words a).length ≤ Na) (hb : (words b).length ≤ Nb) (h0 : Na < 2 ^ 40) (h1 : Nb < 2 ^ 40) :
    Spec Tryz.prog G 127 [.row (words a).length false ((dcel Na a).take ((words a).length * 1)), .row (words b).length false ((dcel Nb b).take ((words b).length * 1))] (int (cmpI a b)) := by
  have h := rcompare_spec (G := G) hG (l := words a) (m := words b) (dig_words _) (dig_words _) (by omega) (by omega)
  rw [val_words, val_words] at h
  rw [dcel_row ha, dcel_row hb]; exact h
theorem gm_round (hG : Steady G) {N0 N1 tw : Nat} (h0 : N0 < 2 ^ 40) (h1 : N1 < 2 ^ 40) {s : GS} (hf : s.fits N0 N1) (ha : 0 < s.a) (hb : 0 < s.b) :
    Goes Tryz.prog G 0 (loopOf Tryz.f122 1) (gst N0 N1 tw s) .normal (gst N0 N1 tw s.next) := by
  obtain ⟨sw, a, b⟩ := s
  have hla := len_mono (oddp_le a)
  have hlb := len_mono (oddp_le b)
  have g1 : decide (Int.ofNat (words a).length > 0) = true := by rw [len_pos_dec]; exact decide_eq_true ha
  unfold GS.next
  simp only at ha hb ⊢
  by_cases hlt : oddp a < oddp b
  · rw [if_pos hlt]
    have hls := len_mono (Nat.sub_le (oddp b) (oddp a))
    cases sw
    · obtain ⟨f1, f2⟩ := hf
      have f1 : (words a).length ≤ N0 := f1
      have f2 : (words b).length ≤ N1 := f2
      have q1 : (words (oddp a)).length ≤ N0 := by omega
      have q2 : (words (oddp b)).length ≤ N1 := by omega
      exact Goes.of_run hG (ro := []) (m := 40) (lay_len ..)
        [.eq 38 (eqB g1), .code (sa_loop hG (tw := tw) (sw := false) (b := b) ha f1 h0 h1), .code (sb_loop hG (tw := tw) (sw := false) (a := oddp a) hb f2 h0 h1), .call (cmp_cells hG q1 q2 h0 h1), .eq 56 (eqB (cmp_neg_true hlt)),
         .inl [] Tryz.func144, .code (tk_loop hG true q2 q1 (Nat.le_of_lt hlt) h1), .inl [] Tryz.func145, .code (cut_loop hG true (y := oddp b - oddp a) (dcel N0 (oddp a)) q2 h1 hls)] (by kernel_rfl)
    · obtain ⟨f1, f2⟩ := hf
      have f1 : (words b).length ≤ N0 := f1
      have f2 : (words a).length ≤ N1 := f2
      have q1 : (words (oddp b)).length ≤ N0 := by omega
      have q2 : (words (oddp a)).length ≤ N1 := by omega
      exact Goes.of_run hG (ro := []) (m := 40) (lay_len ..)
        [.eq 38 (eqB g1), .code (sa_loop hG (tw := tw) (sw := true) (b := b) ha f2 h0 h1), .code (sb_loop hG (tw := tw) (sw := true) (a := oddp a) hb f1 h0 h1), .call (cmp_cells hG q2 q1 h1 h0), .eq 56 (eqB (cmp_neg_true hlt)),
         .inl [] Tryz.func144, .code (tk_loop hG false q1 q2 (Nat.le_of_lt hlt) h0), .inl [] Tryz.func145, .code (cut_loop hG false (y := oddp b - oddp a) (dcel N1 (oddp a)) q1 h0 hls)] (by kernel_rfl)
  · rw [if_neg hlt]
    have hls := len_mono (Nat.sub_le (oddp a) (oddp b))
    cases sw
    · obtain ⟨f1, f2⟩ := hf
      have f1 : (words a).length ≤ N0 := f1
      have f2 : (words b).length ≤ N1 := f2
      have q1 : (words (oddp a)).length ≤ N0 := by omega
      have q2 : (words (oddp b)).length ≤ N1 := by omega
      exact Goes.of_run hG (ro := []) (m := 40) (lay_len ..)
        [.eq 38 (eqB g1), .code (sa_loop hG (tw := tw) (sw := false) (b := b) ha f1 h0 h1), .code (sb_loop hG (tw := tw) (sw := false) (a := oddp a) hb f2 h0 h1), .call (cmp_cells hG q1 q2 h0 h1), .eq 56 (eqB (cmp_neg_false hlt)),
         .inl [] Tryz.func144, .code (tk_loop hG false q1 q2 (by omega) h0), .inl [] Tryz.func145, .code (cut_loop hG false (y := oddp a - oddp b) (dcel N1 (oddp b)) q1 h0 hls)] (by kernel_rfl)
    · obtain ⟨f1, f2⟩ := hf
      have f1 : (words b).length ≤ N0 := f1
      have f2 : (words a).length ≤ N1 := f2
      have q1 : (words (oddp b)).length ≤ N0 := by omega
      have q2 : (words (oddp a)).length ≤ N1 := by omega
      exact Goes.of_run hG (ro := []) (m := 40) (lay_len ..)
        [.eq 38 (eqB g1), .code (sa_loop hG (tw := tw) (sw := true) (b := b) ha f2 h0 h1), .code (sb_loop hG (tw := tw) (sw := true) (a := oddp a) hb f1 h0 h1), .call (cmp_cells hG q2 q1 h1 h0), .eq 56 (eqB (cmp_neg_false hlt)),
         .inl [] Tryz.func144, .code (tk_loop hG true q2 q1 (by omega) h1), .inl [] Tryz.func145, .code (cut_loop hG true (y := oddp a - oddp b) (dcel N0 (oddp b)) q2 h1 hls)] (by kernel_rfl)
theorem gm_last (hG : Steady G) {N0 N1 tw b : Nat} {sw : Bool} : Goes Tryz.prog G 0 (loopOf Tryz.f122 1) (gst N0 N1 tw ⟨sw, 0, b⟩) (.exit 2) (gst N0 N1 tw ⟨sw, 0, b⟩) := by
  have g1 : decide (Int.ofNat (words 0).length > 0) = false := rfl
  cases sw <;> exact Goes.of_run hG (ro := []) (m := 40) (lay_len ..) [.eq 38 (eqB g1)] (by kernel_rfl)
theorem gm_loop (hG : Steady G) {N0 N1 tw : Nat} (h0 : N0 < 2 ^ 40) (h1 : N1 < 2 ^ 40) {s : GS} (hf : s.fits N0 N1) (hb : 0 < s.b) (h : Nat.gcd s.a s.b % 2 = 1) :
    ∃ sw, (GS.mk sw 0 (Nat.gcd s.a s.b)).fits N0 N1 ∧ Abs Tryz.prog G 72 0 (.loop (loopOf Tryz.f122 1)) (gst N0 N1 tw s) (.exit 2) (gst N0 N1 tw ⟨sw, 0, Nat.gcd s.a s.b⟩) := by
  obtain ⟨T, hT, hT0⟩ := GS.stops hb h
  have hfit : ∀ i, (s.nth i).fits N0 N1 := fun i => by
    induction i with
    | zero => exact hf
    | succ i ih => exact GS.next_fits ih
  have hend : s.nth T = ⟨(s.nth T).sw, 0, Nat.gcd s.a s.b⟩ := by
    obtain ⟨-, q2, -⟩ := GS.run hb h T hT
    rw [hT0, Nat.gcd_zero_left] at q2
    cases hs : s.nth T
    rw [hs] at hT0 q2
    simp only at hT0 q2 ⊢
    rw [hT0, q2]
  refine ⟨(s.nth T).sw, by rw [← hend]; exact hfit T, ?_⟩
  have hl := Abs.count (P := Tryz.prog) (Good := G) (gb := 0) (body := loopOf Tryz.f122 1) (e := .exit 2) (s' := gst N0 N1 tw ⟨(s.nth T).sw, 0, Nat.gcd s.a s.b⟩) (fun i => gst N0 N1 tw (s.nth i)) T (fun i => lay_len _ _ _) (by simp)
    (fun i hi => gm_round hG h0 h1 (hfit i) (hT i hi) (GS.run hb h i fun t ht => hT t (by omega)).1)
    (by have := gm_last (G := G) hG (N0 := N0) (N1 := N1) (tw := tw) (b := Nat.gcd s.a s.b) (sw := (s.nth T).sw)
        rw [← hend] at this ⊢; exact this)
  exact hl

/-! ### Twos taken from both -/
theorem both_round (hG : Steady G) {N0 N1 k a b : Nat} (ha : 0 < a) (hb : 0 < b) (hea : a % 2 = 0) (heb : b % 2 = 0) (h0 : N0 < 2 ^ 40) (h1 : N1 < 2 ^ 40) (hn : (words a).length ≤ N0) (hm : (words b).length ≤ N1) (hk : k < 2 ^ 59) :
    Goes Tryz.prog G 0 (loopOf Tryz.f122 0) (gst N0 N1 k ⟨false, a, b⟩) .normal (gst N0 N1 (k + 1) ⟨false, a / 2, b / 2⟩) := by
  have h59 : (2:Nat) ^ 59 = 576460752303423488 := by decide
  have h60 : (2:Nat) ^ 60 = 1152921504606846976 := by decide
  exact Goes.of_run hG (ro := []) (m := 40) (lay_len ..)
    [.prop (zero_ix ha), .prop (zero_load ha hn), .eq 20 (zero_get ha hn), .eq 21 (eq32 (zero_and a)), .eq 22 (eqB (even_true hea)),
     .prop (zero_ix hb), .prop (zero_load hb hm), .eq 26 (zero_get hb hm), .eq 27 (eq32 (zero_and b)), .eq 28 (eqB (even_true heb)),
     .inl [] Tryz.func143, .code (hal_loop hG false (x := a) (dcel N1 b) hn h0), .inl [] Tryz.func145, .code (cut_loop hG false (y := a / 2) (dcel N1 b) hn h0 (len_half a)),
     .inl [] Tryz.func143, .code (hal_loop hG true (x := b) (dcel N0 (a / 2)) hm h1), .inl [] Tryz.func145, .code (cut_loop hG true (y := b / 2) (dcel N0 (a / 2)) hm h1 (len_half b)),
     .eq 35 (eqS (nat_succ (i := k) (by omega)))] (by kernel_rfl)
theorem both_last (hG : Steady G) {N0 N1 k a b : Nat} (ha : 0 < a) (hb : 0 < b) (he : ¬ (a % 2 = 0 ∧ b % 2 = 0)) (hn : (words a).length ≤ N0) (hm : (words b).length ≤ N1) :
    Goes Tryz.prog G 0 (loopOf Tryz.f122 0) (gst N0 N1 k ⟨false, a, b⟩) (.exit 0) (gst N0 N1 k ⟨false, a, b⟩) := by
  by_cases hea : a % 2 = 0
  · have heb : ¬ b % 2 = 0 := fun h => he ⟨hea, h⟩
    exact Goes.of_run hG (ro := []) (m := 40) (lay_len ..)
      [.prop (zero_ix ha), .prop (zero_load ha hn), .eq 20 (zero_get ha hn), .eq 21 (eq32 (zero_and a)), .eq 22 (eqB (even_true hea)),
       .prop (zero_ix hb), .prop (zero_load hb hm), .eq 26 (zero_get hb hm), .eq 27 (eq32 (zero_and b)), .eq 28 (eqB (even_false heb))] (by kernel_rfl)
  · exact Goes.of_run hG (ro := []) (m := 40) (lay_len ..)
      [.prop (zero_ix ha), .prop (zero_load ha hn), .eq 20 (zero_get ha hn), .eq 21 (eq32 (zero_and a)), .eq 22 (eqB (even_false hea))] (by kernel_rfl)
/-- The number of twos that go into both. -/
theorem twos_exist {a b : Nat} (ha : 0 < a) : ∃ T, (∀ t, t < T → a / 2 ^ t % 2 = 0 ∧ b / 2 ^ t % 2 = 0) ∧ ¬ (a / 2 ^ T % 2 = 0 ∧ b / 2 ^ T % 2 = 0) :=
  first_fail (P := fun t => a / 2 ^ t % 2 = 0 ∧ b / 2 ^ t % 2 = 0) (tz a) fun h => by have := tz_odd ha; omega
theorem twos_gcd {a b : Nat} : ∀ T, (∀ t, t < T → a / 2 ^ t % 2 = 0 ∧ b / 2 ^ t % 2 = 0) → 2 ^ T * Nat.gcd (a / 2 ^ T) (b / 2 ^ T) = Nat.gcd a b
  | 0, _ => by rw [Nat.pow_zero, Nat.div_one, Nat.div_one, Nat.one_mul]
  | T + 1, h => by
    have ih := twos_gcd T fun t ht => h t (by omega)
    obtain ⟨h1, h2⟩ := h T (by omega)
    have e1 : a / 2 ^ T = 2 * (a / 2 ^ (T + 1)) := by rw [half_step]; omega
    have e2 : b / 2 ^ T = 2 * (b / 2 ^ (T + 1)) := by rw [half_step]; omega
    rw [← ih, e1, e2, gcd_both, Nat.pow_succ, Nat.mul_assoc]
theorem gcd_odd {a b : Nat} (h : ¬ (a % 2 = 0 ∧ b % 2 = 0)) : Nat.gcd a b % 2 = 1 := by
  rcases Nat.mod_two_eq_zero_or_one (Nat.gcd a b) with e | e
  · have h2 : 2 ∣ Nat.gcd a b := Nat.dvd_of_mod_eq_zero e
    have h3 := Nat.dvd_trans h2 (Nat.gcd_dvd_left a b)
    have h4 := Nat.dvd_trans h2 (Nat.gcd_dvd_right a b)
    exact absurd ⟨Nat.mod_eq_zero_of_dvd h3, Nat.mod_eq_zero_of_dvd h4⟩ h
  · exact e
theorem both_loop (hG : Steady G) {N0 N1 a b T : Nat} (ha : 0 < a) (hb : 0 < b) (h0 : N0 < 2 ^ 40) (h1 : N1 < 2 ^ 40) (hn : (words a).length ≤ N0) (hm : (words b).length ≤ N1)
    (hT : ∀ t, t < T → a / 2 ^ t % 2 = 0 ∧ b / 2 ^ t % 2 = 0) (hT2 : ¬ (a / 2 ^ T % 2 = 0 ∧ b / 2 ^ T % 2 = 0)) (hTl : T < 2 ^ 59) :
    Abs Tryz.prog G 72 0 (.loop (loopOf Tryz.f122 0)) (gst N0 N1 0 ⟨false, a, b⟩) (.exit 0) (gst N0 N1 T ⟨false, a / 2 ^ T, b / 2 ^ T⟩) := by
  have hla : ∀ i, (words (a / 2 ^ i)).length ≤ N0 := fun i => Nat.le_trans (len_mono (Nat.div_le_self _ _)) hn
  have hlb : ∀ i, (words (b / 2 ^ i)).length ≤ N1 := fun i => Nat.le_trans (len_mono (Nat.div_le_self _ _)) hm
  have h := Abs.count (P := Tryz.prog) (Good := G) (gb := 0) (body := loopOf Tryz.f122 0) (e := .exit 0) (s' := gst N0 N1 T ⟨false, a / 2 ^ T, b / 2 ^ T⟩) (fun i => gst N0 N1 i ⟨false, a / 2 ^ i, b / 2 ^ i⟩) T (fun i => lay_len _ _ _) (by simp)
    (fun i hi => by
      have := both_round (G := G) hG (k := i) (pow_pos_of ha fun k hk => (hT k (by omega)).1) (pow_pos_of hb fun k hk => (hT k (by omega)).2) (hT i hi).1 (hT i hi).2 h0 h1 (hla i) (hlb i) (by omega)
      rwa [← half_step, ← half_step] at this)
    (both_last hG (pow_pos_of ha fun k hk => (hT k hk).1) (pow_pos_of hb fun k hk => (hT k hk).2) hT2 (hla _) (hlb _))
  simp only [Nat.pow_zero, Nat.div_one] at h
  exact h

/-! ### The twos put back -/
theorem rplus_words (hG : Steady G) {a b : Nat} (ha : (words a).length ≤ 2 ^ 36) (hb : (words b).length ≤ 2 ^ 36) : Spec Tryz.prog G 126 [rowW (words a), rowW (words b)] (rowW (words (a + b))) := by
  have := rplus_spec (G := G) hG (dig_words a) (dig_words b) ha hb
  rwa [val_words, val_words] at this
def dbInv (T g i : Nat) : St := lay 72 [(1, rowW (words (2 ^ i * g))), (64, nat T), (65, nat i)] []
theorem db_loop (hG : Steady G) {T g : Nat} (hT : T < 2 ^ 59) (hl : (words (2 ^ T * g)).length ≤ 2 ^ 36) :
    Abs Tryz.prog G 72 0 (.loop (loopOf Tryz.f122 4)) (lay 72 [(1, rowW (words g)), (64, nat T), (65, nat 0)] []) (.exit 8) (dbInv T g T) := by
  have h59 : (2:Nat) ^ 59 = 576460752303423488 := by decide
  have h60 : (2:Nat) ^ 60 = 1152921504606846976 := by decide
  have h := Abs.count (P := Tryz.prog) (Good := G) (gb := 0) (body := loopOf Tryz.f122 4) (e := .exit 8) (s' := dbInv T g T) (dbInv T g) T (fun i => lay_len _ _ _) (by simp)
    (fun i hi => by
      have hle : (words (2 ^ i * g)).length ≤ 2 ^ 36 := Nat.le_trans (len_mono (Nat.mul_le_mul_right g (Nat.pow_le_pow_right (by omega) (Nat.le_of_lt hi)))) hl
      have e : 2 ^ (i + 1) * g = 2 ^ i * g + 2 ^ i * g := by rw [Nat.pow_succ]; grind
      unfold dbInv
      rw [e]
      exact Goes.of_run hG (ro := []) (m := 40) (lay_len ..) [.eq 66 (eqB (lt_true hi)), .call (rplus_words hG hle hle), .eq 70 (eqS (nat_succ (i := i) (by omega)))] (by kernel_rfl))
    (Goes.of_run hG (ro := []) (m := 40) (lay_len ..) [.eq 66 (eqB (lt_false (Nat.le_refl T)))] (by kernel_rfl))
  unfold dbInv at h
  simp only [Nat.pow_zero, Nat.one_mul] at h
  exact h
end Lw
