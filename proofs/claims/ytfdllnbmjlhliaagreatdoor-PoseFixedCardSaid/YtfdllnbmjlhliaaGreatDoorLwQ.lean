/- The walks of quotients by one word and of shifts. No condition. -/
import Derived.Test.YtfdllnbmjlhliaaGreatDoorLwP
namespace Lw
open Go Go.RowKit Go.Proofs

variable {G : World → Prop}

theorem or_bits {x y : Nat} (hx : x < 18446744073709551616) (hy : y < 18446744073709551616) :
    IntKind.wrap .u64 (((BitVec.ofInt (IntKind.bits .u64) (Int.ofNat x) ||| BitVec.ofInt (IntKind.bits .u64) (Int.ofNat y)).toNat : Nat) : Int) = Int.ofNat (x ||| y) := by
  have e : ∀ z : Nat, z < 18446744073709551616 → (BitVec.ofInt (IntKind.bits .u64) (Int.ofNat z)).toNat = z := by
    intro z hz
    show (BitVec.ofInt 64 (Int.ofNat z)).toNat = z
    simp only [Int.ofNat_eq_natCast, BitVec.ofInt_natCast, BitVec.toNat_ofNat]
    exact Nat.mod_eq_of_lt (by simpa using hz)
  rw [BitVec.toNat_or, e x hx, e y hy]
  exact wrap64 (Nat.or_lt_two_pow (n := 64) (by simpa using hx) (by simpa using hy))
theorem or_add {x y : Nat} (hy : y < 4294967296) : x * 4294967296 ||| y = x * 4294967296 + y := by
  have := Nat.two_pow_add_eq_or_of_lt (i := 32) (b := y) (by simpa using hy) x
  rw [show (2:Nat) ^ 32 = 4294967296 by decide] at this
  rw [Nat.mul_comm]; exact this.symm
theorem shl32 {x : Nat} (h : x < 4294967296) : IntKind.wrap .u64 (Int.ofNat x * 2 ^ min (Int.toNat 32) (IntKind.bits .u64)) = Int.ofNat (x * 4294967296) := by
  rw [show (2:Int) ^ min (Int.toNat 32) (IntKind.bits .u64) = Int.ofNat 4294967296 by decide]
  exact wrap_mul (by omega)
theorem quo64 {s d : Nat} (hs : s < 18446744073709551616) : IntKind.wrap .u64 ((Int.ofNat s).tdiv (Int.ofNat d)) = Int.ofNat (s / d) := by
  have : (Int.ofNat s).tdiv (Int.ofNat d) = Int.ofNat (s / d) := rfl
  rw [this]
  exact wrap64 (Nat.lt_of_le_of_lt (Nat.div_le_self _ _) hs)
theorem rem64 (s d : Nat) : (Int.ofNat s).tmod (Int.ofNat d) = Int.ofNat (s % d) := rfl
theorem pos_need {d : Nat} (h : 0 < d) : Int.ofNat d ≠ 0 := by simp; omega

/-! ### short -/
def shoF (a d c j : Nat) : Nat := if c ≤ j then a / d / BP j % 4294967296 else 0
theorem downF {N i : Nat} (hi : i < N) (g : Nat → Nat) : splice (cel N (fun j => if i + 1 ≤ j then g j else 0)) i [u32 (g i)] = cel N (fun j => if i ≤ j then g j else 0) := by
  rw [splice_cel _ _ hi]
  refine cel_congr fun j _ => ?_
  by_cases hji : j = i
  · subst hji; simp
  · rw [if_neg hji]; by_cases h : i ≤ j
    · rw [if_pos h, if_pos (by omega)]
    · rw [if_neg h, if_neg (by omega)]
def shoInv (l : List Nat) (d c : Nat) : St :=
  lay 43 [(0, rowW l), (1, u32 d), (6, .slc 0 0 l.length l.length), (7, u64 (val l / BP c % d)), (8, int (cnt c))] [(0, cel l.length (shoF (val l) d c))]
theorem sho_round (hG : Steady G) {l : List Nat} (hl : Dig l) {d i : Nat} (hd0 : 0 < d) (hd : d < 4294967296) (hi : i < l.length) (hb : l.length < 2 ^ 60) :
    Goes Tryz.prog G 0 (loopOf Tryz.f115 0) (shoInv l d (i + 1)) .normal (shoInv l d i) := by
  have hx := hl.getD i
  obtain ⟨s1, s2, s3⟩ := short_step (val l) i hd0
  have hr : val l / BP (i + 1) % d < d := Nat.mod_lt _ hd0
  rw [← getD_val hl] at s1 s2 s3
  have e : shoInv l d i = lay 43 [(0, rowW l), (1, u32 d), (6, .slc 0 0 l.length l.length), (7, u64 (val l / BP i % d)), (8, int (cnt i))]
      [(0, splice (cel l.length (shoF (val l) d (i + 1))) i [u32 (val l / d / BP i % 4294967296)])] := by
    unfold shoInv
    have := downF hi (fun j => val l / d / BP j % 4294967296)
    have e2 : shoF (val l) d (i + 1) = fun j => if i + 1 ≤ j then val l / d / BP j % 4294967296 else 0 := rfl
    rw [e2, this]; rfl
  rw [e]
  exact Goes.of_run hG (ro := []) (m := 30) (lay_len ..)
    [.eq 16 (eqB (x := decide (Int.ofNat i ≥ 0)) (y := true) (by simp)), .eq 20 (eq64 (shl32 (x := val l / BP (i + 1) % d) (by omega))), .prop (at_need hi), .prop (load_need hi), .eq 24 (headD_need hi), .eq 25 (eq64 (conv64 hx)),
     .eq 26 (eq64 (x := IntKind.wrap .u64 (((BitVec.ofInt (IntKind.bits .u64) (Int.ofNat (val l / BP (i + 1) % d * 4294967296)) ||| BitVec.ofInt (IntKind.bits .u64) (Int.ofNat (l.getD i 0))).toNat : Nat) : Int))
        (y := Int.ofNat (val l / BP (i + 1) % d * 4294967296 + l.getD i 0)) (by rw [or_bits (by omega) (by omega), or_add hx])),
     .eq 31 (eq64 (conv64 hd)), .prop (pos_need hd0), .eq 32 (eq64 (quo64 (s := val l / BP (i + 1) % d * 4294967296 + l.getD i 0) (d := d) (by omega))),
     .eq 33 (eq32 (x := IntKind.wrap .u32 (Int.ofNat ((val l / BP (i + 1) % d * 4294967296 + l.getD i 0) / d))) (y := Int.ofNat (val l / d / BP i % 4294967296)) (by rw [conv32, s1])),
     .prop (ix_need hi), .eq 34 (ptr_at 0 i), .prop (p := i + 1 ≤ (cel l.length (shoF (val l) d (i + 1))).length) (by rw [cel_len]; omega),
     .eq 37 (eq64 (conv64 hd)), .prop (pos_need hd0), .eq 38 (eq64 (x := (Int.ofNat (val l / BP (i + 1) % d * 4294967296 + l.getD i 0)).tmod (Int.ofNat d)) (y := Int.ofNat (val l / BP i % d)) (by rw [rem64, s2])),
     .eq 18 (eqS (cnt_top (n := i) (by omega)))] (by kernel_rfl)
theorem sho_last (hG : Steady G) {l : List Nat} {d : Nat} : Goes Tryz.prog G 0 (loopOf Tryz.f115 0) (shoInv l d 0) (.exit 0) (shoInv l d 0) :=
  Goes.of_run hG (ro := []) (m := 30) (lay_len ..) [] (by kernel_rfl)
theorem Abs.down {P : Program} {Good : World → Prop} {gb : Nat} {body : Code} (inv : Nat → St) (n : Nat) {len : Nat} {e : XEnd} {s' : St} (hlen : ∀ i, (inv i).tmps.length = len) (he : e ≠ .normal)
    (round : ∀ i, i < n → Goes P Good gb body (inv (i + 1)) .normal (inv i)) (last : Goes P Good gb body (inv 0) e s') : Abs P Good len gb (.loop body) (inv n) e s' :=
  Abs.rounds (fun c => c ≤ n) inv id hlen he (fun c hc => by
    cases c with
    | zero => exact .inr last
    | succ i => exact .inl ⟨i, by omega, by simp, round i hc⟩) n (Nat.le_refl _)
theorem sho_loop (hG : Steady G) {l : List Nat} (hl : Dig l) {d : Nat} (hd0 : 0 < d) (hd : d < 4294967296) (hb : l.length < 2 ^ 60) :
    Abs Tryz.prog G 43 0 (.loop (loopOf Tryz.f115 0))
      (lay 43 [(0, rowW l), (1, u32 d), (6, .slc 0 0 l.length l.length), (7, u64 0), (8, int (cnt l.length))] [(0, List.replicate l.length (u32 0))]) (.exit 0) (shoInv l d 0) := by
  have h := Abs.down (shoInv l d) l.length (fun k => lay_len _ _ _) (by simp) (fun i hi => sho_round hG hl hd0 hd hi hb) (sho_last hG)
  have e : shoInv l d l.length = lay 43 [(0, rowW l), (1, u32 d), (6, .slc 0 0 l.length l.length), (7, u64 0), (8, int (cnt l.length))] [(0, List.replicate l.length (u32 0))] := by
    rw [cel_zero]
    unfold shoInv
    rw [Nat.div_eq_of_lt (val_lt hl), Nat.zero_mod]
    congr 3
    exact cel_congr fun j hj => by unfold shoF; rw [if_neg (by omega)]
  rw [e] at h; exact h
/-- Quotient and rest of words by one word. -/
theorem short_spec (hG : Steady G) {l : List Nat} (hl : Dig l) {d : Nat} (hd0 : 0 < d) (hd : d < 4294967296) (h1 : l.length ≤ 2 ^ 36) :
    Spec Tryz.prog G 115 [rowW l, u32 d] (.tup [rowW (words (val l / d)), u32 (val l % d)]) := by
  have h36 : (2:Nat) ^ 36 = 68719476736 := by decide
  have h40 : (2:Nat) ^ 40 = 1099511627776 := by decide
  have h60 : (2:Nat) ^ 60 = 1152921504606846976 := by decide
  have hN : l.length ≤ 2 ^ 40 := by omega
  have hfit : val l / d < BP l.length := Nat.lt_of_le_of_lt (Nat.div_le_self _ _) (val_lt hl)
  have ht := trim_spec (G := G) hG (l := digs l.length (val l / d)) (digs_dig _ _) (by rw [digs_len]; exact hN)
  rw [words_digs hfit] at ht
  refine Spec.of_run hG Tryz.func115 (ro := []) (m := 30) (args := [rowW l, u32 d])
    [.prop (make_need hN), .eq 14 (eqS (cnt_top (n := l.length) (by omega))), .code (sho_loop hG hl hd0 hd (by omega)), .freeze 0,
     .eq 39 (d := D.row l.length false (((cel l.length (shoF (val l) d 0)).drop 0).take l.length)) (d' := rowW (digs l.length (val l / d))) ?_, .call ht,
     .eq 42 (eq32 (x := IntKind.wrap .u32 (Int.ofNat (val l / BP 0 % d))) (y := Int.ofNat (val l % d)) ?_)] (by kernel_rfl)
  · rw [← cel_row]
    congr 3
  · have := Nat.mod_lt (val l) hd0
    rw [conv32, BP_zero, Nat.div_one, Nat.mod_eq_of_lt (by omega)]
end Lw
