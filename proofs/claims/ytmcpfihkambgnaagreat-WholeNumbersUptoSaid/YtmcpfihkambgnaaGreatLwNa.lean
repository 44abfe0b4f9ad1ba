/- Commutative rings with a reckoned normal form; ordered fields. No condition. -/
import Derived.KernelRfl
namespace Lw
namespace Fld

/-- A commutative ring. -/
class Rng (K : Type) extends Add K, Mul K, Neg K, Sub K, Zero K, One K where
  add_assoc' : ∀ a b c : K, a + b + c = a + (b + c)
  add_comm' : ∀ a b : K, a + b = b + a
  add_zero' : ∀ a : K, a + 0 = a
  neg_add' : ∀ a : K, -a + a = 0
  mul_assoc' : ∀ a b c : K, a * b * c = a * (b * c)
  mul_comm' : ∀ a b : K, a * b = b * a
  mul_one' : ∀ a : K, a * 1 = a
  distrib' : ∀ a b c : K, a * (b + c) = a * b + a * c
  sub_def' : ∀ a b : K, a - b = a + -b

namespace Rng
variable {K : Type} [Rng K]
theorem zero_add' (a : K) : 0 + a = a := by rw [add_comm', add_zero']
theorem add_neg' (a : K) : a + -a = 0 := by rw [add_comm', neg_add']
theorem one_mul' (a : K) : 1 * a = a := by rw [mul_comm', mul_one']
theorem distrib_r (a b c : K) : (a + b) * c = a * c + b * c := by rw [mul_comm', distrib', mul_comm' c a, mul_comm' c b]
theorem add_left (a b c : K) : a + (b + c) = b + (a + c) := by rw [← add_assoc', add_comm' a b, add_assoc']
theorem mul_left (a b c : K) : a * (b * c) = b * (a * c) := by rw [← mul_assoc', mul_comm' a b, mul_assoc']
theorem cancel {a b c : K} (h : a + b = a + c) : b = c := by
  have := congrArg (fun x => -a + x) h
  simp only [← add_assoc', neg_add', zero_add'] at this
  exact this
theorem mul_zero' (a : K) : a * 0 = 0 := by
  have : a * 0 + a * 0 = a * 0 + 0 := by rw [← distrib', add_zero', add_zero']
  exact cancel this
theorem zero_mul' (a : K) : 0 * a = 0 := by rw [mul_comm', mul_zero']
theorem neg_unique {a b : K} (h : a + b = 0) : b = -a := by
  have : a + b = a + -a := by rw [h, add_neg']
  exact cancel this
theorem neg_mul' (a b : K) : -a * b = -(a * b) := neg_unique (by rw [← distrib_r, add_neg', zero_mul'])
theorem neg_neg' (a : K) : - -a = a := (neg_unique (neg_add' a)).symm
theorem neg_add_dist (a b : K) : -(a + b) = -a + -b := (neg_unique (by rw [add_assoc', add_left b, ← add_assoc', add_neg', zero_add', add_neg'])).symm
theorem neg_zero' : -(0 : K) = 0 := (neg_unique (add_zero' 0)).symm
theorem sub_zero_iff {a b : K} : a - b = 0 ↔ a = b := by
  rw [sub_def']
  constructor
  · intro h
    have := congrArg (fun x => x + b) h
    simp only [add_assoc', neg_add', add_zero', zero_add'] at this
    exact this
  · rintro rfl; exact add_neg' a

/-! ### Whole numbers in a ring. -/
def ofN : Nat → K
  | 0 => 0
  | n + 1 => ofN n + 1
def ofI : Int → K
  | .ofNat n => ofN n
  | .negSucc n => -(ofN (n + 1))
theorem ofN_add (m n : Nat) : (ofN (m + n) : K) = ofN m + ofN n := by
  induction n with
  | zero => simp only [Nat.add_zero, ofN, add_zero']
  | succ n ih => rw [Nat.add_succ]; simp only [ofN, ih, add_assoc']
theorem ofN_mul (m n : Nat) : (ofN (m * n) : K) = ofN m * ofN n := by
  induction n with
  | zero => simp only [Nat.mul_zero, ofN, mul_zero']
  | succ n ih => rw [Nat.mul_succ, ofN_add, ih]; simp only [ofN, distrib', mul_one']
theorem ofI_sub (m n : Nat) : (ofI (Int.subNatNat m n) : K) = ofN m + -(ofN n) := by
  rcases Nat.lt_or_ge m n with h | h
  · obtain ⟨k, rfl⟩ : ∃ k, n = m + (k + 1) := ⟨n - m - 1, by omega⟩
    have e : Int.subNatNat m (m + (k + 1)) = .negSucc k := by
      rw [Int.subNatNat_eq_coe]; omega
    rw [e, ofN_add, neg_add_dist, ← add_assoc', add_neg', zero_add']; rfl
  · obtain ⟨k, rfl⟩ : ∃ k, m = n + k := ⟨m - n, by omega⟩
    have e : Int.subNatNat (n + k) n = .ofNat k := by
      rw [Int.subNatNat_eq_coe]; simp only [Int.ofNat_eq_natCast]; omega
    rw [e, ofN_add, add_comm' (ofN n), add_assoc', add_neg', add_zero']; rfl
theorem ofI_neg (a : Int) : (ofI (-a) : K) = -(ofI a) := by
  cases a with
  | ofNat n => cases n with
    | zero => show (ofN 0 : K) = -(ofN 0); simp only [ofN, neg_zero']
    | succ n => rfl
  | negSucc n => show (ofN (n + 1) : K) = -(-(ofN (n + 1))); rw [neg_neg']
theorem ofI_add (a b : Int) : (ofI (a + b) : K) = ofI a + ofI b := by
  cases a with
  | ofNat m => cases b with
    | ofNat n => exact ofN_add m n
    | negSucc n => exact ofI_sub m (n + 1)
  | negSucc m => cases b with
    | ofNat n =>
      show (ofI (Int.subNatNat n (m + 1)) : K) = _
      rw [ofI_sub, add_comm']; rfl
    | negSucc n =>
      show -(ofN (m + n + 1 + 1) : K) = -(ofN (m + 1)) + -(ofN (n + 1))
      rw [← neg_add_dist, ← ofN_add]; congr 2; omega
theorem ofI_mul (a b : Int) : (ofI (a * b) : K) = ofI a * ofI b := by
  have pos : ∀ (m : Nat) (b : Int), (ofI (Int.ofNat m * b) : K) = ofN m * ofI b := by
    intro m b
    cases b with
    | ofNat n => exact ofN_mul m n
    | negSucc n =>
      have : Int.ofNat m * Int.negSucc n = -(Int.ofNat (m * (n + 1))) := by simp [Int.negSucc_eq, Int.mul_neg]
      rw [this, ofI_neg]
      show -(ofN (m * (n + 1)) : K) = ofN m * -(ofN (n + 1))
      rw [ofN_mul, mul_comm' (ofN m) (-(ofN (n + 1))), neg_mul', mul_comm']
  cases a with
  | ofNat m => exact pos m b
  | negSucc m =>
    have : Int.negSucc m * b = -(Int.ofNat (m + 1) * b) := by simp [Int.negSucc_eq, Int.neg_mul]
    rw [this, ofI_neg, pos]
    show -(ofN (m + 1) * ofI b : K) = -(ofN (m + 1)) * ofI b
    rw [neg_mul']

/-! ### The normal form. -/
inductive Ex where
  | v (n : Nat)
  | z
  | o
  | add (a b : Ex)
  | mul (a b : Ex)
  | neg (a : Ex)
  | sub (a b : Ex)
def Ex.ev (ρ : List K) : Ex → K
  | .v n => ρ.getD n 0
  | .z => 0
  | .o => 1
  | .add a b => a.ev ρ + b.ev ρ
  | .mul a b => a.ev ρ * b.ev ρ
  | .neg a => -(a.ev ρ)
  | .sub a b => a.ev ρ - b.ev ρ
abbrev Poly := List (Int × List Nat)
def evM (ρ : List K) : List Nat → K
  | [] => 1
  | n :: l => ρ.getD n 0 * evM ρ l
def evP (ρ : List K) : Poly → K
  | [] => 0
  | (c, m) :: p => ofI c * evM ρ m + evP ρ p
def insM (n : Nat) : List Nat → List Nat
  | [] => [n]
  | k :: l => if Nat.ble n k then n :: k :: l else k :: insM n l
def mulM : List Nat → List Nat → List Nat
  | [], b => b
  | n :: a, b => insM n (mulM a b)
def eqM : List Nat → List Nat → Bool
  | [], [] => true
  | a :: l, b :: m => Nat.beq a b && eqM l m
  | _, _ => false
def ltM : List Nat → List Nat → Bool
  | [], [] => false
  | [], _ :: _ => true
  | _ :: _, [] => false
  | a :: l, b :: m => if Nat.beq a b then ltM l m else Nat.blt a b
def isZ : Int → Bool
  | .ofNat n => Nat.beq n 0
  | .negSucc _ => false
def insT (c : Int) (m : List Nat) : Poly → Poly
  | [] => [(c, m)]
  | (c', m') :: p => if eqM m m' then (if isZ (c + c') then p else (c + c', m') :: p) else if ltM m m' then (c, m) :: (c', m') :: p else (c', m') :: insT c m p
def addP : Poly → Poly → Poly
  | [], q => q
  | (c, m) :: p, q => insT c m (addP p q)
def mulT (c : Int) (m : List Nat) : Poly → Poly
  | [] => []
  | (c', m') :: p => insT (c * c') (mulM m m') (mulT c m p)
def mulP : Poly → Poly → Poly
  | [], _ => []
  | (c, m) :: p, q => addP (mulT c m q) (mulP p q)
def negP : Poly → Poly
  | [] => []
  | (c, m) :: p => (-c, m) :: negP p
def Ex.norm : Ex → Poly
  | .v n => [(1, [n])]
  | .z => []
  | .o => [(1, [])]
  | .add a b => addP a.norm b.norm
  | .mul a b => mulP a.norm b.norm
  | .neg a => negP a.norm
  | .sub a b => addP a.norm (negP b.norm)

theorem ofI_one : (ofI 1 : K) = 1 := by show (ofN 0 + 1 : K) = 1; exact zero_add' 1
theorem isZ_eq {c : Int} (h : isZ c = true) : c = 0 := by
  cases c with
  | ofNat n => simp only [isZ] at h; rw [Nat.eq_of_beq_eq_true h]; rfl
  | negSucc n => cases h
theorem eqM_eq : ∀ {a b : List Nat}, eqM a b = true → a = b
  | [], [], _ => rfl
  | a :: l, b :: m, h => by
    simp only [eqM, Bool.and_eq_true] at h
    rw [Nat.eq_of_beq_eq_true h.1, eqM_eq h.2]
  | [], _ :: _, h => by cases h
  | _ :: _, [], h => by cases h
theorem ev_insM (ρ : List K) (n : Nat) : ∀ l, evM ρ (insM n l) = ρ.getD n 0 * evM ρ l
  | [] => rfl
  | k :: l => by
    simp only [insM]
    split
    · rfl
    · simp only [evM, ev_insM ρ n l]; exact mul_left _ _ _
theorem ev_mulM (ρ : List K) : ∀ a b, evM ρ (mulM a b) = evM ρ a * evM ρ b
  | [], b => by simp only [mulM, evM, one_mul']
  | n :: a, b => by simp only [mulM, evM, ev_insM, ev_mulM ρ a b, mul_assoc']
theorem ev_insT (ρ : List K) (c : Int) (m : List Nat) : ∀ p, evP ρ (insT c m p) = ofI c * evM ρ m + evP ρ p
  | [] => rfl
  | (c', m') :: p => by
    simp only [insT]
    split
    · rename_i he
      have := eqM_eq he
      subst this
      split
      · rename_i hz
        simp only [evP, ← add_assoc', ← distrib_r, ← ofI_add, isZ_eq hz]
        show _ = (ofN 0 : K) * _ + _
        simp only [ofN, zero_mul', zero_add']
      · simp only [evP, ofI_add, distrib_r, add_assoc']
    · split
      · rfl
      · simp only [evP, ev_insT ρ c m p]; exact add_left _ _ _
theorem ev_addP (ρ : List K) : ∀ p q, evP ρ (addP p q) = evP ρ p + evP ρ q
  | [], q => by simp only [addP, evP, zero_add']
  | (c, m) :: p, q => by simp only [addP, evP, ev_insT, ev_addP ρ p q, add_assoc']
theorem ev_mulT (ρ : List K) (c : Int) (m : List Nat) : ∀ p, evP ρ (mulT c m p) = ofI c * evM ρ m * evP ρ p
  | [] => by simp only [mulT, evP, mul_zero']
  | (c', m') :: p => by
    simp only [mulT, evP, ev_insT, ev_mulT ρ c m p, ev_mulM, ofI_mul, distrib']
    congr 1
    simp only [mul_assoc']
    rw [mul_left (ofI c') (evM ρ m)]
theorem ev_mulP (ρ : List K) : ∀ p q, evP ρ (mulP p q) = evP ρ p * evP ρ q
  | [], q => by simp only [mulP, evP, zero_mul']
  | (c, m) :: p, q => by simp only [mulP, evP, ev_addP, ev_mulT, ev_mulP ρ p q, distrib_r]
theorem ev_negP (ρ : List K) : ∀ p, evP ρ (negP p) = -(evP ρ p)
  | [] => by simp only [negP, evP, neg_zero']
  | (c, m) :: p => by simp only [negP, evP, ev_negP ρ p, ofI_neg, neg_mul', neg_add_dist]
theorem ev_norm (ρ : List K) : ∀ e : Ex, evP ρ e.norm = e.ev ρ
  | .v n => by simp only [Ex.norm, evP, evM, Ex.ev, ofI_one, one_mul', mul_one', add_zero']
  | .z => rfl
  | .o => by simp only [Ex.norm, evP, evM, Ex.ev, ofI_one, one_mul', add_zero']
  | .add a b => by simp only [Ex.norm, ev_addP, ev_norm ρ a, ev_norm ρ b, Ex.ev]
  | .mul a b => by simp only [Ex.norm, ev_mulP, ev_norm ρ a, ev_norm ρ b, Ex.ev]
  | .neg a => by simp only [Ex.norm, ev_negP, ev_norm ρ a, Ex.ev]
  | .sub a b => by simp only [Ex.norm, ev_addP, ev_negP, ev_norm ρ a, ev_norm ρ b, Ex.ev, sub_def']

/-! ### Terms as expressions. -/
class At (ρ : List K) (a : K) (n : outParam Nat) : Prop where
  h : ρ.getD n 0 = a
instance (a : K) (l : List K) : At (a :: l) a 0 := ⟨rfl⟩
instance (priority := low) (a b : K) (l : List K) (n : Nat) [i : At l a n] : At (b :: l) a (n + 1) := ⟨by rw [List.getD_cons_succ]; exact i.h⟩
class Qt (ρ : List K) (a : K) (e : outParam Ex) : Prop where
  h : e.ev ρ = a
instance (ρ : List K) : Qt ρ (0 : K) .z := ⟨rfl⟩
instance (ρ : List K) : Qt ρ (1 : K) .o := ⟨rfl⟩
instance (ρ : List K) (a b : K) (e f : Ex) [i : Qt ρ a e] [j : Qt ρ b f] : Qt ρ (a + b) (.add e f) := ⟨by simp only [Ex.ev, i.h, j.h]⟩
instance (ρ : List K) (a b : K) (e f : Ex) [i : Qt ρ a e] [j : Qt ρ b f] : Qt ρ (a * b) (.mul e f) := ⟨by simp only [Ex.ev, i.h, j.h]⟩
instance (ρ : List K) (a b : K) (e f : Ex) [i : Qt ρ a e] [j : Qt ρ b f] : Qt ρ (a - b) (.sub e f) := ⟨by simp only [Ex.ev, i.h, j.h]⟩
instance (ρ : List K) (a : K) (e : Ex) [i : Qt ρ a e] : Qt ρ (-a) (.neg e) := ⟨by simp only [Ex.ev, i.h]⟩
instance (priority := low) (ρ : List K) (a : K) (n : Nat) [i : At ρ a n] : Qt ρ a (.v n) := ⟨i.h⟩

/-- An equation of a ring, by reckoning. -/
theorem rg (ρ : List K) {a b : K} {e f : Ex} [i : Qt ρ a e] [j : Qt ρ b f] (h : (Ex.sub e f).norm = []) : a = b := by
  have h1 := ev_norm ρ (Ex.sub e f)
  rw [h] at h1
  simp only [Ex.ev, i.h, j.h] at h1
  exact sub_zero_iff.1 h1.symm
/-- The same from an equation. -/
theorem rg1 (ρ : List K) {a b p q : K} (c : K) {e f : Ex} (hp : p = q) [i : Qt ρ a e] [j : Qt ρ (b + c * (p - q)) f] (h : (Ex.sub e f).norm = []) : a = b := by
  have := rg ρ (a := a) (b := b + c * (p - q)) h
  rw [this, sub_zero_iff.2 hp, mul_zero', add_zero']
theorem rg2 (ρ : List K) {a b p q p' q' : K} (c c' : K) {e f : Ex} (hp : p = q) (hp' : p' = q') [i : Qt ρ a e] [j : Qt ρ (b + c * (p - q) + c' * (p' - q')) f] (h : (Ex.sub e f).norm = []) : a = b := by
  have := rg ρ (a := a) (b := b + c * (p - q) + c' * (p' - q')) h
  rw [this, sub_zero_iff.2 hp, sub_zero_iff.2 hp', mul_zero', mul_zero', add_zero', add_zero']
example (x y s d : K) (h : s * s = d) : (x + y * s) * (x - y * s) = x * x - y * y * d := rg1 [x, y, s, d] (-(y * y)) h (by kernel_rfl)
end Rng
end Fld
end Lw
