/- Loops by runs of their rounds; sizes and signs of machine words. No condition. -/
import Derived.Test.YtfdllnbmjlhliaaGreatDoorLwI
import Derived.KernelRfl
namespace Lw
open Go Go.RowKit

variable {P : Program} {Good : World → Prop}

/-- A run, and then what is kept. -/
def runKeep (P : Program) {Good : World → Prop} (m : Nat) (ro : List Nat) (gb : Nat) (k : Code) (s : St) (tr : List (Item P Good)) (kT kB : List Nat) : Option (XEnd × List D × List (Option (List D)) × List (Item P Good) × List (Got × Got)) :=
  match runC P m ro gb k s tr with
  | some (e, s1, tr', eqs) => if maskOk gb kT kB s1 then some (e, kT.map (fun t => s1.tmps.getD t .any), kB.map (fun b => s1.blks.getD b none), tr', eqs) else none
  | none => none
/-- One round comes to this end and to a frame of which this much is kept. -/
def Goes (P : Program) (Good : World → Prop) (gb : Nat) (k : Code) (s : St) (e : XEnd) (s' : St) : Prop :=
  ∃ s1 kT kB, Shows P Good gb k s e s1 ∧ maskOk gb kT kB s1 = true ∧ (s1.mask kT kB).fs = s'.fs
theorem Goes.of_run (hG : Steady Good) {ro : List Nat} {gb m n : Nat} {k : Code} {s : St} {l : List (Nat × D)} {bl : List (Nat × List D)} {e : XEnd} (hn : s.tmps.length = n) (tr : List (Item P Good))
    (h : runKeep P m ro gb k s tr (l.map (·.1)) (bl.map (·.1)) = some (e, l.map (·.2), bl.map (fun p => some p.2), [], said tr)) : Goes P Good gb k s e (lay n l bl) := by
  unfold runKeep at h
  split at h
  · rename_i e1 s1 tr1 eqs1 hr
    split at h
    · rename_i hok
      simp only [Option.some.injEq, Prod.mk.injEq, List.map_map] at h
      obtain ⟨rfl, h1, h2, rfl, rfl⟩ := h
      have hs := Shows.of_run hG tr hr
      exact ⟨s1, _, _, hs, hok, mask_lay (hs.1.trans hn) h1 h2⟩
    · cases h
  · cases h

/-- ████ A loop whose rounds are counted: 'inv i' is the frame at the head of round i, n of them go round, and the last one leaves. -/
theorem Abs.count {gb : Nat} {body : Code} (inv : Nat → St) (n : Nat) {len : Nat} {e : XEnd} {s' : St} (hlen : ∀ i, (inv i).tmps.length = len) (he : e ≠ .normal)
    (round : ∀ i, i < n → Goes P Good gb body (inv i) .normal (inv (i + 1))) (last : Goes P Good gb body (inv n) e s') : Abs P Good len gb (.loop body) (inv 0) e s' := by
  refine Shows.loop (fun i => i ≤ n) inv (fun i => n - i) hlen he (fun i hi => ?_) 0 (Nat.zero_le _)
  rcases Nat.lt_or_ge i n with h | h
  · obtain ⟨s1, kT, kB, h1, h2, h3⟩ := round i h
    exact .inl ⟨i + 1, s1, kT, kB, h, by omega, h1, h2, h3⟩
  · have : i = n := by omega
    subst this
    exact .inr last
/-- The same with a round before which it may leave: 'stop i' is the first one. -/
theorem Abs.rounds {ι : Type} {gb : Nat} {body : Code} (R : ι → Prop) (inv : ι → St) (μ : ι → Nat) {len : Nat} {e : XEnd} {s' : St} (hlen : ∀ i, (inv i).tmps.length = len) (he : e ≠ .normal)
    (round : ∀ i, R i → (∃ j, R j ∧ μ j < μ i ∧ Goes P Good gb body (inv i) .normal (inv j)) ∨ Goes P Good gb body (inv i) e s') (i : ι) (hi : R i) : Abs P Good len gb (.loop body) (inv i) e s' := by
  refine Shows.loop R inv μ hlen he (fun i hi => ?_) i hi
  rcases round i hi with ⟨j, h0, h1, s1, kT, kB, h2, h3, h4⟩ | h
  · exact .inl ⟨j, s1, kT, kB, h0, h1, h2, h3, h4⟩
  · exact .inr h

/-- The loops of a body, in the order of the text, outer ones first. -/
def Code.loops : Code → List Code
  | .seq x y => Code.loops x ++ Code.loops y
  | .cond _ x y => Code.loops x ++ Code.loops y
  | .block _ x => Code.loops x
  | .loop x => x :: Code.loops x
  | _ => []
def loopOf (fn : Func) (i : Nat) : Code := ((fn.body.map Code.loops).getD []).getD i .skip
theorem eqI {k : IntKind} {x y : Int} (h : x = y) : D.lit (.int k x) = D.lit (.int k y) := by rw [h]
theorem eqB {x y : Bool} (h : x = y) : D.lit (.bool x) = D.lit (.bool y) := by rw [h]

/-! ### Machine words. -/
theorem wrap64i {n : Int} : IntKind.wrap .u64 n = n % 18446744073709551616 := by
  have e : (2 ^ IntKind.bits .u64 : Int) = 18446744073709551616 := by decide
  simp only [IntKind.wrap, IntKind.signed, e, Bool.false_and, Bool.false_eq_true, if_false]
theorem wrap32i {n : Int} : IntKind.wrap .u32 n = n % 4294967296 := by
  have e : (2 ^ IntKind.bits .u32 : Int) = 4294967296 := by decide
  simp only [IntKind.wrap, IntKind.signed, e, Bool.false_and, Bool.false_eq_true, if_false]
theorem wrap64 {n : Nat} (h : n < 18446744073709551616) : IntKind.wrap .u64 (n : Int) = (n : Int) := by rw [wrap64i]; omega
theorem wrap32 {n : Nat} : IntKind.wrap .u32 (n : Int) = ((n % 4294967296 : Nat) : Int) := by rw [wrap32i]; omega
theorem wrapS {n : Int} (h : -9223372036854775808 ≤ n) (h' : n < 9223372036854775808) : IntKind.wrap .i64 n = n := by
  have e : (2 ^ IntKind.bits .i64 : Int) = 18446744073709551616 := by decide
  have e' : (2 ^ (IntKind.bits .i64 - 1) : Int) = 9223372036854775808 := by decide
  simp only [IntKind.wrap, IntKind.signed, e, e', Bool.true_and]
  by_cases hc : n % 18446744073709551616 ≥ 9223372036854775808
  · rw [if_pos (by simpa using hc)]; omega
  · rw [if_neg (by simpa using hc)]; omega
end Lw
