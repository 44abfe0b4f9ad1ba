/- Arguments opened: lists of structs, of any length; lists of displacements, of fractions; two places. No condition. -/
import Derived.Test.YtobmipmefimfpaaGreatDoorLwGa
namespace Lw
open Go Go.RowKit Go.Proofs Go.ChangeShapes Go.WideShapes Go.ChangeAt

theorem list_of {α : Type} (p : Nat → α → Prop) : ∀ n : Nat, (∀ i, i < n → ∃ r, p i r) → ∃ l : List α, l.length = n ∧ ∀ i (h : i < l.length), p i l[i]
  | 0, _ => ⟨[], rfl, fun i h => by cases h⟩
  | n + 1, h => by
    obtain ⟨l, h1, h2⟩ := list_of p n fun i hi => h i (by omega)
    obtain ⟨r, hr⟩ := h n (by omega)
    refine ⟨l ++ [r], by simp [h1], fun i hi => ?_⟩
    by_cases hl : i < l.length
    · rw [List.getElem_append_left hl]; exact h2 i hl
    · have : i = n := by simp at hi; omega
      subst this
      rw [List.getElem_append_right (by omega)]
      simpa using hr
theorem flat_get {α β : Type} {f : α → List β} {sz : Nat} : ∀ {l : List α} (_ : ∀ x ∈ l, (f x).length = sz) (i k : Nat) (_ : k < sz) (hi : i < l.length), (l.flatMap f)[i * sz + k]? = (f l[i])[k]?
  | [], _, i, k, hk, hi => by cases hi
  | x :: l, hf, 0, k, hk, hi => by
    have := hf x (by simp)
    rw [List.flatMap_cons, Nat.zero_mul, Nat.zero_add, List.getElem?_append_left (by omega)]
    rfl
  | x :: l, hf, i + 1, k, hk, hi => by
    have hx := hf x (by simp)
    rw [List.flatMap_cons, List.getElem?_append_right (by rw [hx, Nat.succ_mul]; omega), hx]
    have e : (i + 1) * sz + k - sz = i * sz + k := by rw [Nat.succ_mul]; omega
    rw [e]
    exact flat_get (l := l) (fun y hy => hf y (by simp [hy])) i k hk (by simpa using hi)
theorem flat_len' {α β : Type} {f : α → List β} {sz : Nat} : ∀ {l : List α} (_ : ∀ x ∈ l, (f x).length = sz), (l.flatMap f).length = l.length * sz
  | [], _ => by simp
  | x :: l, hf => by rw [List.flatMap_cons, List.length_append, hf x (by simp), flat_len' (l := l) (fun y hy => hf y (by simp [hy])), List.length_cons, Nat.succ_mul]; omega
theorem reps_flat {α : Type} {W : World} {X : Nat → Prop} {f : α → List Value} {g : α → List D} : ∀ {l : List α} (_ : ∀ x ∈ l, Reps W X (f x) (g x)), Reps W X (l.flatMap f) (l.flatMap g)
  | [], _ => by simpa using Reps.nil
  | x :: l, h => by
    rw [List.flatMap_cons, List.flatMap_cons]
    exact Reps.append (h x (by simp)) (reps_flat (l := l) fun y hy => h y (by simp [hy]))

section
variable {H : Type} {enc : TypeId × Value → H} {W : World} {fuel : Nat} {cs : List Value} {x : DataW H × List MemPlace}

theorem open_list {α : Type} {f : α → List D} {ok : α → Prop} {t e : TypeId} {sz : Nat} (ht : Tryz.prog.underlying t = some (.slice e)) (hc : Tryz.prog.cellsOf e = sz) (h0 : 0 < sz)
    (one : ∀ {n : Nat} {cs : List Value} {x : DataW H × List MemPlace}, DataW.trod enc Tryz.prog W 0 (fun _ => true) true n e cs = some x → ∃ r, ok r ∧ Reps W NoX cs (f r))
    (h : DataW.trod enc Tryz.prog W 0 (fun _ => true) true fuel t cs = some x) : ∃ l : List α, (∀ r ∈ l, ok r) ∧ l.length ≤ 9223372036854775807 ∧ Reps W NoX cs [rowS f l] := by
  rcases DataW.trod_slice ht h with ⟨rfl, -⟩ | ⟨a, len, cap, elems, rest, n, _, rfl, rfl, hb, hl, hm, hlen, hel, -, -⟩
  · exact ⟨[], (fun r hr => by cases hr), by simp, Reps.cons (nil_rep W NoX false) Reps.nil⟩
  · have each : ∀ i, i < len → ∃ p : α × List Value, ok p.1 ∧ Reps W NoX p.2 (f p.1) ∧ p.2.length = sz ∧ ∀ k, k < sz → W.cell? (a.add (i * sz + k)) = p.2[k]? := by
      intro i hi
      have he := hel i hi
      rw [hc, List.getElem?_eq_getElem (by omega), Option.bind_eq_some_iff] at he
      obtain ⟨us, h1, h2⟩ := he
      obtain ⟨r, g1, g2⟩ := one h2
      obtain ⟨-, k2, k3⟩ := World.cells?_some h1
      refine ⟨(r, us), g1, g2, k2, fun k hk => ?_⟩
      have := k3 k hk
      rw [Addr.add_add] at this
      exact this
    obtain ⟨ps, p1, p2⟩ := list_of _ len each
    have hs : ∀ p ∈ ps, p.2.length = sz := fun p hp => by
      obtain ⟨i, hi, rfl⟩ := List.mem_iff_getElem.1 hp
      exact (p2 i hi).2.2.1
    have hr : ∀ p ∈ ps, Reps W NoX p.2 (f p.1) := fun p hp => by
      obtain ⟨i, hi, rfl⟩ := List.mem_iff_getElem.1 hp
      exact (p2 i hi).2.1
    have e1 : (ps.map (·.1)).flatMap f = ps.flatMap fun p => f p.1 := by rw [List.flatMap_map]
    have hreps := reps_flat hr
    have hlen' : (ps.flatMap fun p => p.2).length = len * sz := by rw [flat_len' hs, p1]
    have hmx : cap ≤ 9223372036854775807 := by have e : maxLen = 9223372036854775807 := by decide
                                               omega
    refine ⟨ps.map (·.1), fun r hr => ?_, by rw [List.length_map, p1]; omega, Reps.cons ?_ Reps.nil⟩
    · obtain ⟨p, hp, rfl⟩ := List.mem_map.1 hr
      obtain ⟨i, hi, rfl⟩ := List.mem_iff_getElem.1 hp
      exact (p2 i hi).1
    · unfold rowS
      rw [e1, List.length_map, p1]
      refine .row (some a) len cap false (ps.flatMap fun p => p.2) _ hreps.1 hl hm (fun h => by cases h) (fun j hj => ⟨a, rfl, fun h => h, ?_⟩) hreps.2
      have hj' : j < len * sz := by rw [← hlen']; exact hj
      have hq : j / sz < ps.length := by rw [p1]; exact (Nat.div_lt_iff_lt_mul h0).2 hj'
      have hk : j % sz < sz := Nat.mod_lt _ h0
      have ej : j / sz * sz + j % sz = j := by rw [Nat.mul_comm]; exact Nat.div_add_mod j sz
      have c1 := (p2 (j / sz) hq).2.2.2 (j % sz) hk
      have c2 := flat_get hs (j / sz) (j % sz) hk hq
      rw [ej] at c1 c2
      rw [c1, ← c2]
      exact List.getElem?_eq_getElem hj
theorem slice_cells {P : Program} {t e : TypeId} {r : Reach} {b0 : Nat} {v : Value} (ht : P.underlying t = some (.slice e)) (hval : Value.okWide P W r b0 t v) : v.cells.toList = [v] := by
  obtain ⟨a, len, cap, rfl⟩ := okWide_slice ht hval
  rfl
end
end Lw

namespace Lw
open Go Go.RowKit Go.Proofs

variable {G : World → Prop}

/-! ### the square of a distance from the origin -/
def sq2 (a b : Rat) : Rat := a * a + b * b
theorem SzQ.sq2 {k : Nat} {a b : Rat} (sa : SzQ k a) (sb : SzQ k b) : SzQ (4 * k + 1) (Lw.sq2 a b) := ((sa.mul sa).add (sb.mul sb)).mono (by omega)
end Lw
