/- The walks of the bits of a word and of the guess at a digit. No condition. -/
import Derived.Test.YtfdllnbmjlhliaaGreatDoorLwS
import Derived.Test.YtfdllnbmjlhliaaGreatDoorLwT
namespace Lw
open Go Go.RowKit Go.Proofs

variable {G : World → Prop}

/-! ### Len32 -/
def opsText : List Oper → Option ByteArray
  | [] => none
  | o :: l => match o.op with
    | .index _ (.const v) _ => (match v with | .string s => some s | _ => opsText l)
    | _ => opsText l
def Code.text : Code → Option ByteArray
  | .seq x y => match Code.text x with | some s => some s | none => Code.text y
  | .cond _ x y => match Code.text x with | some s => some s | none => Code.text y
  | .block _ x => Code.text x
  | .loop x => Code.text x
  | .region _ ops _ => opsText ops.toList
  | _ => none
noncomputable def lenTab : ByteArray := ((Tryz.f160.body.map Code.text).getD none).getD ⟨#[]⟩
theorem lenTab_size : lenTab.size = 256 := by kernel_rfl
theorem lenTab_all : (List.range 256).all (fun i => ((lenTab[i]?).getD 0).toNat == bl i) = true := by kernel_rfl
theorem lenTab_at {x : Nat} (h : x < 256) : ((lenTab[x]?).getD 0).toNat = bl x := by
  have := lenTab_all
  rw [List.all_eq_true] at this
  simpa using this x (by simpa using h)
theorem tab_need {x : Nat} (h : x < 256) : (0:Int) ≤ Int.ofNat x ∧ (Int.ofNat x).toNat < lenTab.size := by
  rw [lenTab_size]; simp; omega
theorem shr_u32 {x : Nat} (k : Nat) (h : k ≤ 32) : (Int.ofNat x).fdiv (2 ^ min (Int.ofNat k).toNat (IntKind.bits .u32)) = Int.ofNat (x / 2 ^ k) := by
  have e : min (Int.ofNat k).toNat (IntKind.bits .u32) = k := by
    show min k 32 = k
    omega
  rw [e, fdiv_pow]
theorem conv8 {x : Nat} (h : x < 256) : IntKind.wrap .u8 (Int.ofNat x) = Int.ofNat x := by
  have e : (2 ^ IntKind.bits .u8 : Int) = 256 := by decide
  simp only [IntKind.wrap, IntKind.signed, e, Bool.false_and, Bool.false_eq_true, if_false]
  exact Int.emod_eq_of_lt (by simp) (by simp; omega)
theorem convS {x : Nat} (h : x < 2 ^ 60) : IntKind.wrap .i64 (Int.ofNat x) = Int.ofNat x := by
  have h60 : (2:Nat) ^ 60 = 1152921504606846976 := by decide
  exact wrapS (by simp only [Int.ofNat_eq_natCast]; omega) (by simp only [Int.ofNat_eq_natCast]; omega)
theorem eq8 {x y : Int} (h : x = y) : D.lit (.int .u8 x) = D.lit (.int .u8 y) := by rw [h]
theorem ge_lit_true {x c : Nat} (h : c ≤ x) : decide (Int.ofNat x ≥ Int.ofNat c) = true := by simpa using h
theorem ge_lit_false {x c : Nat} (h : x < c) : decide (Int.ofNat x ≥ Int.ofNat c) = false := by simpa using h
theorem bl_small {x : Nat} (h : x < 256) : bl x ≤ 8 := by
  by_cases h0 : x = 0
  · subst h0; decide
  · have h1 := bl_le h0
    rcases Nat.lt_or_ge 8 (bl x) with h2 | h2
    · have : 2 ^ 8 ≤ 2 ^ (bl x - 1) := Nat.pow_le_pow_right (by omega) (by omega)
      omega
    · exact h2
theorem len32_spec (hG : Steady G) {x : Nat} (h : x < 4294967296) : Spec Tryz.prog G 160 [u32 x] (nat (bl x)) := by
  have tail : ∀ y n, y < 256 → n ≤ 24 → IntKind.wrap .i64 (Int.ofNat n + Int.ofNat (bl y)) = Int.ofNat (n + bl y) := fun y n h1 h2 => nat_add (by have := bl_small h1; omega)
  by_cases h1 : 65536 ≤ x
  · have e1 := bl_shift (x := x) (k := 16) (by simpa using h1)
    by_cases h2 : 256 ≤ x / 2 ^ 16
    · have e2 := bl_shift (x := x / 2 ^ 16) (k := 8) (by simpa using h2)
      have h3 : x / 2 ^ 16 / 2 ^ 8 < 256 := by omega
      have e3 : bl x = 24 + bl (x / 2 ^ 16 / 2 ^ 8) := by omega
      rw [e3]
      exact Spec.of_run hG Tryz.func160 (ro := []) (m := 30)
        [.eq 4 (eqB (ge_lit_true h1)), .eq 6 (eq32 (shr_u32 (x := x) 16 (by omega))), .eq 8 (eqB (ge_lit_true h2)), .eq 10 (eq32 (shr_u32 (x := x / 2 ^ 16) 8 (by omega))),
         .eq 15 (eq8 (conv8 h3)), .prop (tab_need h3), .eq 16 (eq8 (x := Int.ofNat ((lenTab[(Int.ofNat (x / 2 ^ 16 / 2 ^ 8)).toNat]?).getD 0).toNat) (y := Int.ofNat (bl (x / 2 ^ 16 / 2 ^ 8))) (congrArg Int.ofNat (lenTab_at h3))),
         .eq 17 (eqS (convS (x := bl (x / 2 ^ 16 / 2 ^ 8)) (by have := bl_small h3; omega))), .eq 18 (eqS (tail _ 24 h3 (by omega)))] (by kernel_rfl)
    · have h3 : x / 2 ^ 16 < 256 := by omega
      have e3 : bl x = 16 + bl (x / 2 ^ 16) := by omega
      rw [e3]
      exact Spec.of_run hG Tryz.func160 (ro := []) (m := 30)
        [.eq 4 (eqB (ge_lit_true h1)), .eq 6 (eq32 (shr_u32 (x := x) 16 (by omega))), .eq 8 (eqB (ge_lit_false h3)),
         .eq 15 (eq8 (conv8 h3)), .prop (tab_need h3), .eq 16 (eq8 (x := Int.ofNat ((lenTab[(Int.ofNat (x / 2 ^ 16)).toNat]?).getD 0).toNat) (y := Int.ofNat (bl (x / 2 ^ 16))) (congrArg Int.ofNat (lenTab_at h3))),
         .eq 17 (eqS (convS (x := bl (x / 2 ^ 16)) (by have := bl_small h3; omega))), .eq 18 (eqS (tail _ 16 h3 (by omega)))] (by kernel_rfl)
  · by_cases h2 : 256 ≤ x
    · have e2 := bl_shift (x := x) (k := 8) (by simpa using h2)
      have h3 : x / 2 ^ 8 < 256 := by omega
      have e3 : bl x = 8 + bl (x / 2 ^ 8) := by omega
      rw [e3]
      exact Spec.of_run hG Tryz.func160 (ro := []) (m := 30)
        [.eq 4 (eqB (ge_lit_false (Nat.lt_of_not_le h1))), .eq 8 (eqB (ge_lit_true h2)), .eq 10 (eq32 (shr_u32 (x := x) 8 (by omega))),
         .eq 15 (eq8 (conv8 h3)), .prop (tab_need h3), .eq 16 (eq8 (x := Int.ofNat ((lenTab[(Int.ofNat (x / 2 ^ 8)).toNat]?).getD 0).toNat) (y := Int.ofNat (bl (x / 2 ^ 8))) (congrArg Int.ofNat (lenTab_at h3))),
         .eq 17 (eqS (convS (x := bl (x / 2 ^ 8)) (by have := bl_small h3; omega))), .eq 18 (eqS (tail _ 8 h3 (by omega)))] (by kernel_rfl)
    · have h3 : x < 256 := by omega
      have e3 : bl x = 0 + bl x := by omega
      rw [e3]
      exact Spec.of_run hG Tryz.func160 (ro := []) (m := 30)
        [.eq 4 (eqB (ge_lit_false (Nat.lt_of_not_le h1))), .eq 8 (eqB (ge_lit_false h3)),
         .eq 15 (eq8 (conv8 h3)), .prop (tab_need h3), .eq 16 (eq8 (x := Int.ofNat ((lenTab[(Int.ofNat x).toNat]?).getD 0).toNat) (y := Int.ofNat (bl x)) (congrArg Int.ofNat (lenTab_at h3))),
         .eq 17 (eqS (convS (x := bl x) (by have := bl_small h3; omega))), .eq 18 (eqS (tail _ 0 h3 (by omega)))] (by kernel_rfl)
theorem bl_u32 {x : Nat} (h : x < 4294967296) : bl x ≤ 32 := by
  by_cases h0 : x = 0
  · subst h0; decide
  · have h1 := bl_le h0
    rcases Nat.lt_or_ge 32 (bl x) with h2 | h2
    · have : 2 ^ 32 ≤ 2 ^ (bl x - 1) := Nat.pow_le_pow_right (by omega) (by omega)
      omega
    · exact h2
theorem lead_spec (hG : Steady G) {x : Nat} (h : x < 4294967296) : Spec Tryz.prog G 148 [u32 x] (nat (32 - bl x)) := by
  have := bl_u32 h
  exact Spec.of_run hG Tryz.func148 (ro := []) (m := 30)
    [.call (len32_spec hG h), .eq 5 (eqS (x := IntKind.wrap .i64 (32 - Int.ofNat (bl x))) (y := Int.ofNat (32 - bl x)) (by rw [wrapS (by simp; omega) (by simp; omega)]; simp; omega))] (by kernel_rfl)
end Lw
