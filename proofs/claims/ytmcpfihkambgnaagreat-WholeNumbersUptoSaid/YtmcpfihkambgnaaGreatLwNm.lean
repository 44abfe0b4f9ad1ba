/- The statement about enclosures and signs of numbers, run; that the fixed four-bar is assembled is asked for. Condition: the lists are shorter than 1048577. -/
import Derived.Test.YtmcpfihkambgnaaGreatLwNl
namespace Lw
namespace Fld
open Rng OFd
theorem BtT.nil (δ : Nat) : BtT δ [] := ⟨1, 0, by omega, Nat.pow_pos (by omega), Nat.zero_le _, fun j => by simp only [List.getD_nil]; exact .nil _ _⟩
theorem BtT.snoc {δ n : Nat} {t : Tow} {d : List Rat} (h : BtT δ t) (hd : Bt n d) : BtT (δ + n) (t ++ [d]) := by
  obtain ⟨Δ, Β, h1, h2, h3, h4⟩ := h
  obtain ⟨D, B, g1, g2, g3, g4⟩ := hd
  have q0 : Δ * D ≤ 2 ^ δ * 2 ^ n := Nat.mul_le_mul h2 g2
  have q1 : Β * D ≤ 2 ^ δ * 2 ^ n := Nat.mul_le_mul h3 g2
  have q2 : B * Δ ≤ 2 ^ n * 2 ^ δ := Nat.mul_le_mul g3 h2
  rw [Nat.mul_comm (2 ^ n)] at q2
  refine ⟨Δ * D, 2 ^ δ * 2 ^ n, Nat.mul_pos h1 g1, by rw [Nat.pow_add]; exact q0, by rw [Nat.pow_add]; exact Nat.le_refl _, fun j => ?_⟩
  have e : (t ++ [d]).getD j [] = if j < t.length then t.getD j [] else if j = t.length then d else [] := by
    simp only [List.getD_eq_getElem?_getD, List.getElem?_append]
    split
    · rfl
    · rename_i hj
      by_cases hjt : j = t.length
      · subst hjt; simp
      · rw [if_neg hjt, List.getElem?_eq_none (by simp; omega)]; rfl
  rw [e]
  split
  · exact ((h4 j).scale D).mono q1
  · split
    · have := g4.scale Δ
      rw [Nat.mul_comm D] at this
      exact this.mono q2
    · exact .nil _ _
theorem tms0 (t : Tow) (x y : Rat) : (tmsL t 0 [x] [y]).getD 0 0 = x * y ∧ (tmsL t 0 [x] [y] = [] ∨ tmsL t 0 [x] [y] = [x * y]) := by
  unfold tmsL
  split
  · rename_i h
    rw [Bool.or_eq_true] at h
    refine ⟨?_, .inl rfl⟩
    have z : ∀ q : Rat, zeroL [q] = true → q = 0 := fun q hq => zeroL_iff.1 hq 0
    rcases h with h | h
    · rw [z x h, Rat.zero_mul]; rfl
    · rw [z y h, Rat.mul_zero]; rfl
  · exact ⟨rfl, .inr rfl⟩
theorem tms0' (t : Tow) (l : List Rat) (y : Rat) (h : l = [] ∨ ∃ x, l = [x]) : (tmsL t 0 l [y]).getD 0 0 = l.getD 0 0 * y := by
  rcases h with rfl | ⟨x, rfl⟩
  · rw [tmsL_nil]
    show (0 : Rat) = 0 * y
    rw [Rat.zero_mul]
  · exact (tms0 t x y).1
theorem sign_two {t : Tow} {e p q : Rat} (ht : t.getD 0 [] = [e]) (he : 0 ≤ Lw.sgn e) : signL t 1 [p, q] = Tw.rsg e p q := by
  have s0 : ∀ x : Rat, signL t 0 [x] = Lw.sgn x := fun x => rfl
  have l2 : (1 : Nat) ≠ 0 := by omega
  have esh : shortL [p, q] = if q = 0 then (if p = 0 then [] else [p]) else [p, q] := by
    unfold shortL
    have e1 : ([p, q] : List Rat).length = 2 := rfl
    have e2 : Nat.log2 2 = 1 := rfl
    rw [if_neg (by rw [e1]; omega), e1, e2]
    have z : ∀ x : Rat, zeroL [x] = decide (x = 0) := fun x => by simp [zeroL]
    have d1 : ([p, q] : List Rat).drop (2 ^ 0) = [q] := rfl
    have d2 : ([p, q] : List Rat).take (2 ^ 0) = [p] := rfl
    unfold cutL
    rw [d1, d2, z q]
    by_cases hq : q = 0
    · rw [if_pos (by simpa using hq), if_pos hq]
      unfold cutL
      rw [z p]
      by_cases hp : p = 0
      · rw [if_pos (by simpa using hp), if_pos hp]
      · rw [if_neg (by simpa using hp), if_neg hp]
    · rw [if_neg (by simpa using hq), if_neg hq]
  unfold signL Tw.rsg
  rw [esh]
  by_cases hq : q = 0
  · rw [if_pos hq, if_pos hq]
    by_cases hp : p = 0
    · rw [if_pos hp]
      simp only [List.length_nil, if_pos]
      rw [hp]; rfl
    · rw [if_neg hp]
      rfl
  · rw [if_neg hq, if_neg hq]
    have e1 : ([p, q] : List Rat).length = 2 := rfl
    have e2 : ([p, q] : List Rat).take (2 / 2) = [p] := rfl
    have e3 : ([p, q] : List Rat).drop (2 / 2) = [q] := rfl
    have e4 : Nat.log2 (2 / 2) = 0 := rfl
    simp only [e1]
    rw [if_neg (by omega), if_neg (by omega), e2, e3, e4, ht, s0, s0, s0]
    have en : signL t 0 (normL t 0 [p, q]) = Lw.sgn (p * p + -(q * q * e)) := by
      show Lw.sgn ((normL t 0 [p, q]).getD 0 0) = _
      congr 1
      unfold normL
      simp only [e1]
      rw [e2, e3, e4, ht, plusL_getD, minusL_getD, (tms0 t p p).1, tms0' t _ e ((tms0 t q q).2.imp id fun h => ⟨_, h⟩), (tms0 t q q).1]
    rw [en]
    have hs := Tw.sgn_abs e
    by_cases h0 : Lw.sgn e = 0
    · rw [if_pos h0, h0, Int.mul_zero, if_pos (.inr rfl)]
    · have h1 : Lw.sgn e = 1 := by omega
      rw [if_neg h0, h1, Int.mul_one]
end Fld
namespace Tw
open Go Go.RowKit Go.Proofs Fld
variable {G : World → Prop}

/-! ### Check -/
def qs (l : List Raw) : List Rat := l.map Raw.q
theorem qs_sz {l : List Raw} (h : ∀ r ∈ l, r.ok 2) : SzL 2 (qs l) := fun q hq => by
  obtain ⟨r, hr, rfl⟩ := List.mem_map.1 hq
  exact (h r hr).sz
theorem TowOk.one {e : Rat} (h : 0 ≤ Lw.sgn e) : TowOk [[e]] :=
  ⟨by simp, fun j hj => by have : j = 0 := by simpa using hj
                           subst this; rfl, fun k hk => by have : k = 0 := by simpa using hk
                                                           subst this; exact h⟩
theorem TowOk.two {e p q : Rat} (h : 0 ≤ Lw.sgn e) (h' : 0 ≤ rsg e p q) : TowOk [[e], [p, q]] := by
  refine ⟨by simp, fun j hj => ?_, fun k hk => ?_⟩
  · have : j = 0 ∨ j = 1 := by simp at hj; omega
    rcases this with rfl | rfl <;> rfl
  · have : k = 0 ∨ k = 1 := by simp at hk; omega
    rcases this with rfl | rfl
    · exact h
    · show 0 ≤ signL [[e]] 1 [p, q]
      rw [sign_two (t := [[e]]) rfl h]; exact h'
theorem KB8 : 8 * 2 ≤ KB := by rw [KB_eq]; omega
theorem shl0 : (IntKind.wrap .i64 ((1 : Int) * 2 ^ min ((0 : Int)).toNat (IntKind.bits .i64))) = 1 := by decide
theorem len_bne {n k : Nat} (h : n ≠ k) : (Int.ofNat n != Int.ofNat k) = true := by rw [bne_iff_ne]; intro e; exact h (Int.ofNat.inj e)
/-- What Check says of towers of at most two roots. -/
theorem Check_ex (hG : Steady G) {t : List (List Raw)} (ht : t.length ≤ 2) (hl : ∀ d ∈ t, d.length ≤ 2) (hs : ∀ d ∈ t, ∀ r ∈ d, r.ok 2) :
    ∃ e : Int, Spec Tryz.prog G 20 [rawT t] (int e) ∧ (e = 0 → (∀ d ∈ t, ∀ r ∈ d, r.valid = true) ∧ TowOk (t.map qs)) := by
  match t, ht, hl, hs with
  | [], _, _, _ => exact ⟨0, Spec.of_run hG Tryz.func20 (ro := [1]) (m := 60) [] (by kernel_rfl), fun _ => ⟨(fun d hd => by cases hd), TowOk.nil⟩⟩
  | [d0], _, hl, hs =>
    by_cases h0 : d0.length = 1
    · obtain ⟨a, rfl⟩ := List.length_eq_one_iff.1 h0
      obtain ⟨e0, c0, v0⟩ := Number_ex (G := G) hG (l := [a]) (k := 0) (by omega) (by simp) (hs _ (by simp))
      by_cases he : e0 = 0
      · have hv := (v0 he).1
        have sa := (hs [a] (by simp) a (by simp)).sz
        have ca := canonD (l := [a]) hv
        subst he
        have sg := rsign1 (G := G) hG (n := 1) (xs := [NumD [a.q]]) sa (by rw [KB_eq]; omega)
        have eT : rawT [[a]] = .agg [.row 1 false [NumD [a.q]]] := by unfold rawT; rw [List.map_cons, List.map_nil, ca]; rfl
        rw [eT]
        rw [ca] at c0
        change Spec Tryz.prog G 53 [nat 0, NumD [a.q]] (int 0) at c0
        by_cases hn : 0 ≤ Lw.sgn a.q
        · exact ⟨0, Spec.of_run hG Tryz.func20 (ro := [1]) (m := 60) [.call c0, .call sg, .eq 32 (eqB (nlt_dec hn))] (by kernel_rfl),
            fun _ => ⟨fun d hd r hr => by rw [List.mem_singleton] at hd; subst hd; exact hv r hr, TowOk.one hn⟩⟩
        · exact ⟨3, Spec.of_run hG Tryz.func20 (ro := [1]) (m := 60) [.call c0, .call sg, .eq 32 (eqB (lt_dec (Int.not_le.1 hn)))] (by kernel_rfl), fun h => by cases h⟩
      · have eb : (e0 != 0) = true := by rw [bne_iff_ne]; exact he
        exact ⟨e0, Spec.of_run hG Tryz.func20 (ro := [1]) (m := 60) [.call c0, .eq 27 (eqB eb)] (by kernel_rfl), fun h => absurd h he⟩
    · exact ⟨10, Spec.of_run hG Tryz.func20 (ro := [1]) (m := 60) [.eq 22 (eqB (len_bne (k := 1) h0))] (by kernel_rfl), fun h => by cases h⟩
  | [d0, d1], _, hl, hs =>
    by_cases h0 : d0.length = 1
    · obtain ⟨a, rfl⟩ := List.length_eq_one_iff.1 h0
      obtain ⟨e0, c0, v0⟩ := Number_ex (G := G) hG (l := [a]) (k := 0) (by omega) (by simp) (hs _ (by simp))
      by_cases he : e0 = 0
      · have hv := (v0 he).1
        have sa := (hs [a] (by simp) a (by simp)).sz
        have ca := canonD (l := [a]) hv
        subst he
        have sg := rsign1 (G := G) hG (n := 2) (xs := [NumD [a.q], rawD d1]) sa (by rw [KB_eq]; omega)
        have eT : rawT [[a], d1] = .agg [.row 2 false [NumD [a.q], rawD d1]] := by unfold rawT; rw [List.map_cons, List.map_cons, List.map_nil, ca]; rfl
        rw [eT]
        rw [ca] at c0
        change Spec Tryz.prog G 53 [nat 0, NumD [a.q]] (int 0) at c0
        by_cases hn : 0 ≤ Lw.sgn a.q
        · by_cases h1 : d1.length = 2
          · obtain ⟨b, c, rfl⟩ : ∃ b c, d1 = [b, c] := by
              match d1, h1 with
              | [b, c], _ => exact ⟨b, c, rfl⟩
            obtain ⟨e1, c1, v1⟩ := Number_ex (G := G) hG (l := [b, c]) (k := 1) (by omega) (by simp) (hs _ (by simp))
            by_cases he1 : e1 = 0
            · have hw := (v1 he1).1
              have sb := (hs [b, c] (by simp) b (by simp)).sz
              have sc := (hs [b, c] (by simp) c (by simp)).sz
              have cb := canonD (l := [b, c]) hw
              subst he1
              have eb : rawD [b, c] = NumD [b.q, c.q] := cb
              rw [eb] at sg c1 ⊢
              have sg2 := rsign2 (G := G) hG (n := 1) (xs := [NumD [b.q, c.q]]) sb sc sa KB8
              by_cases hm : 0 ≤ rsg a.q b.q c.q
              · exact ⟨0, Spec.of_run hG Tryz.func20 (ro := [1]) (m := 60) [.call c0, .call sg, .eq 32 (eqB (nlt_dec hn)), .call c1, .call sg2, .eq 32 (eqB (nlt_dec hm))] (by kernel_rfl),
                  fun _ => ⟨fun d hd r hr => by
                    rcases List.mem_cons.1 hd with rfl | hd
                    · exact hv r hr
                    · rw [List.mem_singleton] at hd; subst hd; exact hw r hr, TowOk.two hn hm⟩⟩
              · exact ⟨3, Spec.of_run hG Tryz.func20 (ro := [1]) (m := 60) [.call c0, .call sg, .eq 32 (eqB (nlt_dec hn)), .call c1, .call sg2, .eq 32 (eqB (lt_dec (Int.not_le.1 hm)))] (by kernel_rfl), fun h => by cases h⟩
            · have eb : (e1 != 0) = true := by rw [bne_iff_ne]; exact he1
              exact ⟨e1, Spec.of_run hG Tryz.func20 (ro := [1]) (m := 60) [.call c0, .call sg, .eq 32 (eqB (nlt_dec hn)), .call c1, .eq 27 (eqB eb)] (by kernel_rfl), fun h => absurd h he1⟩
          · exact ⟨10, Spec.of_run hG Tryz.func20 (ro := [1]) (m := 60) [.call c0, .call sg, .eq 32 (eqB (nlt_dec hn)), .eq 22 (eqB (len_bne (k := 2) h1))] (by kernel_rfl), fun h => by cases h⟩
        · exact ⟨3, Spec.of_run hG Tryz.func20 (ro := [1]) (m := 60) [.call c0, .call sg, .eq 32 (eqB (lt_dec (Int.not_le.1 hn)))] (by kernel_rfl), fun h => by cases h⟩
      · have eb : (e0 != 0) = true := by rw [bne_iff_ne]; exact he
        exact ⟨e0, Spec.of_run hG Tryz.func20 (ro := [1]) (m := 60) [.call c0, .eq 27 (eqB eb)] (by kernel_rfl), fun h => absurd h he⟩
    · exact ⟨10, Spec.of_run hG Tryz.func20 (ro := [1]) (m := 60) [.eq 22 (eqB (len_bne (k := 1) h0))] (by kernel_rfl), fun h => by cases h⟩
  | _ :: _ :: _ :: _, ht, _, _ => exact absurd ht (by simp)
end Tw
end Lw
