/- A prover that looks up the operations on numbers of small towers: their contracts are found by the function and its arguments. Condition: towers of one root at most, numbers of at most 512 bits. -/
import Derived.Test.YtmcpfihkambgnaaGreatLwNn
namespace Lw
open Go Go.RowKit Go.Proofs

/-! ### Equality of data, decided -/
def valEq : Value → Value → Bool
  | .int k a, .int l b => decide (k = l) && decide (a = b)
  | .bool a, .bool b => decide (a = b)
  | .string a, .string b => strSame a b
  | .nilIface, .nilIface => true
  | _, _ => false
theorem valEq_ok : ∀ {a b : Value}, valEq a b = true → a = b
  | .int k a, .int l b, h => by
    simp only [valEq, Bool.and_eq_true, decide_eq_true_eq] at h
    rw [h.1, h.2]
  | .bool a, .bool b, h => by
    simp only [valEq, decide_eq_true_eq] at h
    rw [h]
  | .string a, .string b, h => by
    simp only [valEq] at h
    rw [strSame_ok h]
  | .nilIface, .nilIface, _ => rfl
def eqL (f : D → D → Bool) : List D → List D → Bool
  | [], [] => true
  | a :: l, b :: m => f a b && eqL f l m
  | _, _ => false
theorem eqL_ok {f : D → D → Bool} (hf : ∀ {a b}, f a b = true → a = b) : ∀ {l m : List D}, eqL f l m = true → l = m
  | [], [], _ => rfl
  | a :: l, b :: m, h => by
    simp only [eqL, Bool.and_eq_true] at h
    rw [hf h.1, eqL_ok hf h.2]
def dEq : Nat → D → D → Bool
  | 0, _, _ => false
  | n + 1, .lit a, .lit b => valEq a b
  | n + 1, .row l f xs, .row m g ys => decide (l = m) && decide (f = g) && eqL (dEq n) xs ys
  | n + 1, .agg xs, .agg ys => eqL (dEq n) xs ys
  | n + 1, .rptr xs, .rptr ys => eqL (dEq n) xs ys
  | n + 1, .tup xs, .tup ys => eqL (dEq n) xs ys
  | _, _, _ => false
theorem dEq_ok : ∀ (n : Nat) {a b : D}, dEq n a b = true → a = b
  | 0, _, _, h => by simp [dEq] at h
  | n + 1, a, b, h => by
    cases a <;> cases b <;> simp only [dEq, Bool.false_eq_true] at h
    · rw [valEq_ok h]
    · simp only [Bool.and_eq_true, decide_eq_true_eq] at h
      rw [h.1.1, h.1.2, eqL_ok (fun hh => dEq_ok n hh) h.2]
    · rw [eqL_ok (fun hh => dEq_ok n hh) h]
    · rw [eqL_ok (fun hh => dEq_ok n hh) h]
    · rw [eqL_ok (fun hh => dEq_ok n hh) h]
namespace Tw
open Fld
variable {G : World → Prop}
/-! ### Numbers, read from data -/
def digOf : D → List Nat
  | .row _ _ xs => xs.map fun x => match x with
    | .lit (.int _ z) => z.toNat
    | _ => 0
  | _ => []
def valOf : List Nat → Nat
  | [] => 0
  | x :: l => x + 4294967296 * valOf l
def qOf (s n d : D) : Rat := match s with
  | .lit (.bool true) => mkRat (-(valOf (digOf n) : Int)) (valOf (digOf d))
  | _ => mkRat (valOf (digOf n) : Int) (valOf (digOf d))
def lOf : List D → List Rat
  | s :: n :: d :: r => qOf s n d :: lOf r
  | _ => []
def fOf : D → Rat
  | .agg [s, n, d] => qOf s n d
  | _ => 0
def nOf : D → List Rat
  | .row _ _ c => lOf c
  | _ => []
def tOf : D → Tow
  | .agg [.row _ _ ns] => ns.map nOf
  | _ => []
instance (k : Nat) (q : Rat) : Decidable (SzQ k q) := by unfold SzQ; infer_instance
def okQ (d : D) : Bool := dEq 4 (F (fOf d)) d && decide (SzQ 16 (fOf d))
def okT (d : D) : Bool := dEq 5 (TowD (tOf d)) d && match tOf d with
  | [] => true
  | [[q]] => decide (SzQ 2 q) && decide (0 ≤ sgn q)
  | _ => false
def okN (t : Tow) (d : D) : Bool := dEq 4 (NumD (nOf d)) d && (decide ((nOf d).length ≤ 1) || decide ((nOf d).length = 2 ∧ t.length = 1)) && (nOf d).all fun q => decide (SzQ 16 q)
theorem okQ_ok {d : D} (h : okQ d = true) : d = F (fOf d) ∧ SzQ 16 (fOf d) := by
  unfold okQ at h
  simp only [Bool.and_eq_true, decide_eq_true_eq] at h
  exact ⟨(dEq_ok _ h.1).symm, h.2⟩
theorem okT_ok {d : D} (h : okT d = true) : d = TowD (tOf d) ∧ (tOf d).length ≤ 1 ∧ TowB 512 (tOf d) := by
  unfold okT at h
  rw [Bool.and_eq_true] at h
  refine ⟨(dEq_ok _ h.1).symm, ?_⟩
  have h2 := h.2
  generalize tOf d = t at h2
  match t, h2 with
  | [], _ => exact ⟨by simp, ⟨.nil, BtT.nil 512, by decide⟩⟩
  | [[q]], h2 =>
    simp only [Bool.and_eq_true, decide_eq_true_eq] at h2
    refine ⟨by simp, ⟨⟨by simp, fun j hj => ?_, fun k hk => ?_⟩, BtT_512 (by simp) (by simp) (fun d hd q' hq => ?_), (show sb 512 1 512 ≤ NB by decide +kernel)⟩⟩
    · obtain rfl : j = 0 := by simp at hj; exact hj
      rfl
    · obtain rfl : k = 0 := by simp at hk; exact hk
      exact h2.2
    · rw [List.mem_singleton] at hd; subst hd
      rw [List.mem_singleton] at hq; subst hq
      exact h2.1
theorem okN_ok {t : Tow} {d : D} (h : okN t d = true) : d = NumD (nOf d) ∧ NumB 2048 t (nOf d) := by
  unfold okN at h
  simp only [Bool.and_eq_true, Bool.or_eq_true, decide_eq_true_eq, List.all_eq_true] at h
  obtain ⟨⟨h1, h2⟩, h3⟩ := h
  refine ⟨(dEq_ok _ h1).symm, ⟨?_, (Bt.of_sz (k := 16) (fun q hq => h3 q hq)).mono (by rcases h2 with h2 | h2 <;> omega)⟩⟩
  generalize nOf d = l at h2
  rcases h2 with h2 | h2
  · cases l with
    | nil => exact .nil _
    | cons a m =>
      have : m = [] := by cases m with
        | nil => rfl
        | cons _ _ => simp at h2
      subst this
      exact .inr ⟨0, Nat.zero_le _, rfl⟩
  · exact .inr ⟨1, by omega, h2.1⟩
theorem orc_sizes {k : Nat} (h : k ≤ 1) : sb 512 k 2048 ≤ NB ∧ 2048 + 2048 + 1 ≤ NB ∧ 2048 + 2048 + tb 512 k ≤ NB ∧ 2048 + ib 512 k 2048 + tb 512 k ≤ NB ∧ sb 512 k (2048 + 2048 + 1) ≤ NB := by
  have : k = 0 ∨ k = 1 := by omega
  rcases this with rfl | rfl <;> decide +kernel
theorem kb16 : 16 ≤ KB := by rw [KB_eq]; omega

/-! ### The prover's table -/
def tp (d : D) : D := .tup [d, .lit .nilIface]
def o3 (f : FuncId) (t a b : D) : Option D :=
  if f = 316 ∨ f = 312 ∨ f = 317 ∨ f = 284 ∨ f = 52 then
    if okT t && okN (tOf t) a && okN (tOf t) b then
      if f = 316 then some (tp (NumD (addL (nOf a) (nOf b))))
      else if f = 312 then some (tp (NumD (subL (nOf a) (nOf b))))
      else if f = 317 then some (tp (NumD (mulL (tOf t) (nOf a) (nOf b))))
      else if f = 52 then some (tp (int (sgnL (tOf t) (plusL (nOf a) (minusL (nOf b))))))
      else if f = 284 then (if sgnL (tOf t) (nOf b) = 0 then none else some (tp (NumD (divL (tOf t) (nOf a) (nOf b)))))
      else none
    else none
  else none
def o2 (f : FuncId) (a b : D) : Option D :=
  if f = 51 ∨ f = 23 ∨ f = 157 ∨ f = 65 then
    if okT a && okN (tOf a) b then
      if f = 51 then some (tp (NumD (negL (nOf b))))
      else if f = 23 then some (tp (int (sgnL (tOf a) (nOf b))))
      else if f = 65 then some (int (sgnL (tOf a) (nOf b)))
      else if f = 157 then some (bool true)
      else none
    else none
  else if f = 112 ∨ f = 70 ∨ f = 45 ∨ f = 320 then
    if okQ a && okQ b then
      if f = 112 then some (F (fOf a + fOf b))
      else if f = 70 then some (F (fOf a - fOf b))
      else if f = 45 then some (F (fOf a * fOf b))
      else if f = 320 then (if fOf b = 0 then none else some (tp (F (fOf a / fOf b))))
      else none
    else none
  else none
def o1 (f : FuncId) (a : D) : Option D :=
  if f = 50 then (if okT a then some (.lit .nilIface) else none)
  else if f = 86 then (if okQ a then some (NumD (ofL (fOf a))) else none)
  else if f = 43 then (if okQ a then some (int (sgn (fOf a))) else none)
  else if f = 42 then (if okQ a then some (bool true) else none)
  else if f = 28 then (match a with
    | .lit (.int .i64 z) => if -9223372036854775808 ≤ z ∧ z < 9223372036854775808 then some (F (z : Rat)) else none
    | _ => none)
  else none
theorem o3_ok (hG : Steady G) {f : FuncId} {t a b r : D} (h : o3 f t a b = some r) : Spec Tryz.prog G f [t, a, b] r := by
  unfold o3 at h
  split at h
  · split at h
    · rename_i hok
      simp only [Bool.and_eq_true] at hok
      obtain ⟨e1, l1, hT⟩ := okT_ok hok.1.1
      obtain ⟨e2, ha⟩ := okN_ok hok.1.2
      obtain ⟨e3, hb⟩ := okN_ok hok.2
      obtain ⟨s1, s2, s3, s4, s5⟩ := orc_sizes l1
      rw [e1, e2, e3]
      split at h
      · rename_i hf; subst hf; cases h; exact Add_spec hG hT ha hb s2
      · split at h
        · rename_i hf; subst hf; cases h; exact Sub_spec hG hT ha hb s2
        · split at h
          · rename_i hf; subst hf; cases h; exact Mul_spec hG hT ha hb s3
          · split at h
            · rename_i hf; subst hf; cases h; exact Cmp_spec hG hT ha hb s5
            · split at h
              · rename_i hf
                split at h
                · cases h
                · rename_i h0; subst hf; cases h; exact Div_spec hG hT ha hb h0 s1 s4
              · cases h
    · cases h
  · cases h
theorem o2_ok (hG : Steady G) {f : FuncId} {a b r : D} (h : o2 f a b = some r) : Spec Tryz.prog G f [a, b] r := by
  unfold o2 at h
  split at h
  · split at h
    · rename_i hok
      simp only [Bool.and_eq_true] at hok
      obtain ⟨e1, l1, hT⟩ := okT_ok hok.1
      obtain ⟨e2, ha⟩ := okN_ok hok.2
      obtain ⟨s1, s2, s3, s4, s5⟩ := orc_sizes l1
      rw [e1, e2]
      split at h
      · rename_i hf; subst hf; cases h; exact Neg_spec hG hT ha (by omega)
      · split at h
        · rename_i hf; subst hf; cases h; exact Sign_spec hG hT ha s1
        · split at h
          · rename_i hf; subst hf; cases h; exact sign_specN hG hT ha s1
          · split at h
            · rename_i hf; subst hf; cases h; exact Valid_spec hG hT ha (by omega)
            · cases h
    · cases h
  · split at h
    · split at h
      · rename_i hok
        simp only [Bool.and_eq_true] at hok
        obtain ⟨e1, s1⟩ := okQ_ok hok.1
        obtain ⟨e2, s2⟩ := okQ_ok hok.2
        rw [e1, e2]
        split at h
        · rename_i hf; subst hf; cases h; exact FAdd_spec hG s1.isQ s2.isQ kb16 kb16
        · split at h
          · rename_i hf; subst hf; cases h; exact FSub_spec hG s1.isQ s2.isQ kb16 kb16
          · split at h
            · rename_i hf; subst hf; cases h; exact FMul_spec hG s1.isQ s2.isQ kb16 kb16
            · split at h
              · rename_i hf
                split at h
                · cases h
                · rename_i h0; subst hf; cases h; exact FDiv_spec hG s1.isQ s2.isQ kb16 kb16 h0
              · cases h
      · cases h
    · cases h
theorem o1_ok (hG : Steady G) {f : FuncId} {a r : D} (h : o1 f a = some r) : Spec Tryz.prog G f [a] r := by
  unfold o1 at h
  split at h
  · rename_i hf; subst hf
    split at h
    · rename_i hok
      obtain ⟨e1, l1, hT⟩ := okT_ok hok
      rw [e1]
      cases h
      exact Check_spec hG hT.ok hT.bt hT.sz
    · cases h
  · split at h
    · rename_i hf; subst hf
      split at h
      · rename_i hok
        obtain ⟨e1, s1⟩ := okQ_ok hok
        rw [e1]
        cases h
        exact Of_specT hG (s1.mono kb16)
      · cases h
    · split at h
      · rename_i hf; subst hf
        split at h
        · rename_i hok
          obtain ⟨e1, s1⟩ := okQ_ok hok
          rw [e1]
          cases h
          exact FSign_spec hG s1.isQ kb16
        · cases h
      · split at h
        · rename_i hf; subst hf
          split at h
          · rename_i hok
            obtain ⟨e1, s1⟩ := okQ_ok hok
            rw [e1]
            cases h
            have hv := FValid_spec (G := G) hG (s1.mono kb16).ok (Nat.le_refl _)
            rw [rawOf_valid] at hv
            exact hv
          · cases h
        · split at h
          · rename_i hf; subst hf
            split at h
            · split at h
              · rename_i z hz
                cases h
                exact FOf_spec hG hz.1 hz.2
              · cases h
            · cases h
          · cases h
end Tw
end Lw
