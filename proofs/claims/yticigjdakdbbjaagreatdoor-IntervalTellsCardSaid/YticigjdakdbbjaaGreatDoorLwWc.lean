/- The text of an integer: the program's function, run. No condition; where the table of Itoa lies. -/
import Derived.Test.YticigjdakdbbjaaGreatDoorLwWb
namespace Lw
open Go Go.RowKit Go.Proofs Go.Lib

variable {G : World → Prop}

/-- The text of one group. -/
def grpOf (v : Nat) : List UInt8 := if v / 1000000000 = 0 then decDigits (v % 1000000000) else padK 9 (v % 1000000000)
/-- The groups of a number, ahead of others. -/
def grp (v : Nat) (p : List (List UInt8)) : List (List UInt8) := if h : v = 0 then p else grp (v / 1000000000) (grpOf v :: p)
termination_by v
decreasing_by omega
theorem grp_zero (p : List (List UInt8)) : grp 0 p = p := by rw [grp, dif_pos rfl]
theorem grp_pos {v : Nat} (h : v ≠ 0) (p : List (List UInt8)) : grp v p = grp (v / 1000000000) (grpOf v :: p) := by rw [grp, dif_neg h]
theorem grp_flat (v : Nat) : ∀ p : List (List UInt8), (grp v p).flatten = (if v = 0 then [] else decDigits v) ++ p.flatten := by
  induction v using Nat.strongRecOn with
  | _ v ih =>
    intro p
    by_cases h : v = 0
    · subst h; rw [grp_zero, if_pos rfl]; rfl
    · rw [grp_pos h, ih _ (by omega), if_neg h, List.flatten_cons, ← List.append_assoc]
      congr 1
      unfold grpOf
      by_cases g : v / 1000000000 = 0
      · rw [if_pos g, if_pos g, Nat.mod_eq_of_lt (by omega)]; rfl
      · rw [if_neg g, if_neg g, dec_group g]
theorem join_flat (xs : List (List UInt8)) : Lib.join xs [] = xs.flatten := by
  unfold Lib.join List.intercalate
  induction xs with
  | nil => rfl
  | cons x xs ih => cases xs with
    | nil => simp
    | cons y ys => simp_all
theorem grp_ne {v : Nat} : ∀ p : List (List UInt8), (v ≠ 0 ∨ p ≠ []) → grp v p ≠ [] := by
  induction v using Nat.strongRecOn with
  | _ v ih =>
    intro p h
    by_cases hv : v = 0
    · subst hv
      rw [grp_zero]
      rcases h with h | h
      · exact absurd rfl h
      · exact h
    · rw [grp_pos hv]
      exact ih _ (by omega) _ (.inr (by simp))
theorem pad_ne {k r : Nat} (h : k ≠ 0) : padK k r ≠ [] := fun e => by
  have := padK_len k r
  rw [e] at this
  exact h this.symm
theorem grpOf_ne (v : Nat) : grpOf v ≠ [] := by
  unfold grpOf
  split
  · intro e
    have := decDigits_length (v % 1000000000)
    rw [e] at this
    have := nDigits_pos (v % 1000000000)
    simp at *
    omega
  · exact pad_ne (by omega)
theorem grp_each (v : Nat) : ∀ (p : List (List UInt8)) (x : List UInt8), x ∈ grp v p → x ∈ p ∨ x ≠ [] := by
  induction v using Nat.strongRecOn with
  | _ v ih =>
    intro p x hx
    by_cases hv : v = 0
    · subst hv
      rw [grp_zero] at hx
      exact .inl hx
    · rw [grp_pos hv] at hx
      rcases ih _ (by omega) _ x hx with h | h
      · rcases List.mem_cons.1 h with rfl | h
        · exact .inr (grpOf_ne v)
        · exact .inl h
      · exact .inr h
theorem flat_ge : ∀ (xs : List (List UInt8)), (∀ x ∈ xs, x ≠ []) → xs.length ≤ xs.flatten.length
  | [], _ => Nat.le_refl _
  | x :: xs, h => by
    have := flat_ge xs fun y hy => h y (by simp [hy])
    have hx : 0 < x.length := List.length_pos_iff.2 (h x (by simp))
    rw [List.flatten_cons, List.length_append, List.length_cons]
    omega
theorem cat_tx (a b : List UInt8) : D.lit (.string ((⟨a.toArray⟩ : ByteArray) ++ ⟨b.toArray⟩)) = txt (a ++ b) := by
  have : ((⟨a.toArray⟩ : ByteArray) ++ ⟨b.toArray⟩) = ⟨(a ++ b).toArray⟩ := by
    apply ByteArray.ext
    rw [ByteArray.data_append]
    simp
  unfold txt
  rw [this]
theorem cat_need (a b : List UInt8) (h : a.length + b.length ≤ 4611686018427387904) : ((((⟨a.toArray⟩ : ByteArray).size + (⟨b.toArray⟩ : ByteArray).size : Nat)) : Int) ≤ IntKind.i64.max := by
  have e1 : (⟨a.toArray⟩ : ByteArray).size = a.length := by simp [ByteArray.size]
  have e2 : (⟨b.toArray⟩ : ByteArray).size = b.length := by simp [ByteArray.size]
  have e3 : IntKind.i64.max = 9223372036854775807 := by decide
  rw [e1, e2, e3]
  omega
theorem repeat_zero (c : Nat) : Lib.repeatL [48] c = List.replicate c 48 := by
  induction c with
  | zero => rfl
  | succ c ih =>
    show [48] ++ Lib.repeatL [48] c = _
    rw [ih, List.replicate_succ]; rfl
/-- How many groups there may be. -/
theorem few {n K l v : Nat} (hn : (words n).length ≤ K) (hv : v ≠ 0) (h : v * 2 ^ l ≤ n) : l < 32 * K + 1 := by
  have h1 : n < BP K := (len_le_iff n K).1 hn
  have h2 : BP K = 2 ^ (32 * K) := by unfold BP; rw [Nat.pow_mul]
  have h3 : 1 * 2 ^ l ≤ v * 2 ^ l := Nat.mul_le_mul_right _ (by omega)
  have h4 : 2 ^ l < 2 ^ (32 * K) := by omega
  have := (Nat.pow_lt_pow_iff_right (a := 2) (by omega)).1 h4
  omega
theorem dig_few {n K : Nat} (hn : (words n).length ≤ K) (h0 : 1 ≤ K) : (decDigits n).length ≤ 32 * K := by
  have h1 : n < BP K := (len_le_iff n K).1 hn
  have h2 : BP K = 2 ^ (32 * K) := by unfold BP; rw [Nat.pow_mul]
  have h3 : 2 ^ (32 * K) ≤ 10 ^ (32 * K) := Nat.pow_le_pow_left (by omega) _
  rw [decDigits_length]
  exact nDigits_le (by omega) (by omega)
def itSt (s : Bool) (n v : Nat) (p : List (List UInt8)) (f : Bool) : St :=
  lay 44 [(1, .rptr [bool s, rowW (words n)]), (3, rowW (words v)), (4, .row p.length f (p.map txt))] []
theorem conv_u32 {r : Nat} (h : r < 4294967296) : IntKind.wrap .i64 (Int.ofNat r) = Int.ofNat r := wrapS (by simp only [Int.ofNat_eq_natCast]; omega) (by simp only [Int.ofNat_eq_natCast]; omega)
theorem it_round (hG : Steady G) (hT : ∀ w, G w → Tab w) {s : Bool} {n v : Nat} {p : List (List UInt8)} {f : Bool} (hv : v ≠ 0) (hl : (words v).length ≤ 1073741824) (hp : p.length ≤ 34359738400) :
    Goes Tryz.prog G 0 (loopOf Tryz.f89 0) (itSt s n v p f) .normal (itSt s n (v / 1000000000) (grpOf v :: p) false) := by
  have h36 : (2:Nat) ^ 36 = 68719476736 := by decide
  have sh := short_spec (G := G) hG (dig_words v) (d := 1000000000) (by omega) (by omega) (by omega)
  rw [val_words] at sh
  have e1 := (len_pos_dec v).trans (decide_eq_true (by omega))
  have hr : v % 1000000000 < 1000000000 := Nat.mod_lt _ (by decide)
  have it := Itoa_spec (G := G) hG hT (n := Int.ofNat (v % 1000000000)) (by simp only [Int.ofNat_eq_natCast]; omega) (by simp only [Int.ofNat_eq_natCast]; omega)
  have ei : Lib.itoa (Int.ofNat (v % 1000000000)) = decDigits (v % 1000000000) := itoa_nonneg _
  rw [ei] at it
  have hnd : nDigits (v % 1000000000) ≤ 9 := nDigits_le (by omega) (by omega)
  have nd : ∀ t : List UInt8, [txt t].length = 1 * 1 ∧ (p.map txt).length = p.length * 1 ∧ 1 + p.length ≤ 2 ^ 62 ∧ (1 + p.length) * 16 ≤ 2 ^ 47 := fun t => by
    have a : (2:Nat) ^ 62 = 4611686018427387904 := by decide
    have b : (2:Nat) ^ 47 = 140737488355328 := by decide
    refine ⟨rfl, by rw [List.length_map, Nat.mul_one], by omega, by omega⟩
  have er : ∀ t : List UInt8, D.row (1 + p.length) false ([txt t] ++ p.map txt) = D.row (t :: p).length false ((t :: p).map txt) := fun t => by rw [Nat.add_comm]; rfl
  by_cases g : v / 1000000000 = 0
  · have eg : grpOf v = decDigits (v % 1000000000) := if_pos g
    rw [eg]
    have e2 := (len_pos_dec (v / 1000000000)).trans (decide_eq_false (by omega))
    exact Goes.of_run hG (ro := [36]) (m := 60) (lay_len ..) [.eq 15 (Lw.eqB e1), .call sh, .eq 22 (eqS (conv_u32 (r := v % 1000000000) (by omega))), .call it, .eq 26 (Lw.eqB e2), .prop (nd (decDigits (v % 1000000000))), .eq 36 (er (decDigits (v % 1000000000)))] (by kernel_rfl)
  · have eg : grpOf v = padK 9 (v % 1000000000) := if_neg g
    rw [eg]
    have e2 := (len_pos_dec (v / 1000000000)).trans (decide_eq_true (by omega))
    have rp := Repeat_spec (G := G) hG (l := [48]) (c := 9 - nDigits (v % 1000000000)) (by omega) (by simp; omega)
    rw [repeat_zero] at rp
    have ec := cat_tx (List.replicate (9 - nDigits (v % 1000000000)) 48) (decDigits (v % 1000000000))
    rw [pad_zero 9 (v % 1000000000) (by omega) (by omega)] at ec
    have es : IntKind.wrap .i64 (9 - Int.ofNat (decDigits (v % 1000000000)).length) = Int.ofNat (9 - nDigits (v % 1000000000)) := by
      rw [decDigits_length, wrapS (by simp only [Int.ofNat_eq_natCast]; omega) (by simp only [Int.ofNat_eq_natCast]; omega)]
      simp only [Int.ofNat_eq_natCast]; omega
    exact Goes.of_run hG (ro := [36]) (m := 60) (lay_len ..) [.eq 15 (Lw.eqB e1), .call sh, .eq 22 (eqS (conv_u32 (r := v % 1000000000) (by omega))), .call it, .eq 26 (Lw.eqB e2), .eq 29 (eqS es), .call rp, .prop (cat_need (List.replicate (9 - nDigits (v % 1000000000)) 48) (decDigits (v % 1000000000)) (by rw [List.length_replicate, decDigits_length]; omega)), .eq 32 ec, .prop (nd (padK 9 (v % 1000000000))), .eq 36 (er (padK 9 (v % 1000000000)))] (by kernel_rfl)
theorem it_last (hG : Steady G) {s : Bool} {n : Nat} {p : List (List UInt8)} {f : Bool} : Goes Tryz.prog G 0 (loopOf Tryz.f89 0) (itSt s n 0 p f) (.exit 0) (itSt s n 0 p f) :=
  Goes.of_run hG (ro := [36]) (m := 60) (lay_len ..) [] (by kernel_rfl)
theorem it_loop (hG : Steady G) (hT : ∀ w, G w → Tab w) {s : Bool} {n : Nat} (h0 : n ≠ 0) (hn : (words n).length ≤ 1073741824) :
    Abs Tryz.prog G 44 0 (.loop (loopOf Tryz.f89 0)) (itSt s n n [] true) (.exit 0) (itSt s n 0 (grp n []) false) := by
  refine Abs.rounds (P := Tryz.prog) (Good := G) (gb := 0) (body := loopOf Tryz.f89 0) (ι := Nat × List (List UInt8) × Bool) (e := .exit 0) (s' := itSt s n 0 (grp n []) false)
    (fun i => grp i.1 i.2.1 = grp n [] ∧ i.1 * 2 ^ i.2.1.length ≤ n ∧ (i.1 = 0 → i.2.2 = false)) (fun i => itSt s n i.1 i.2.1 i.2.2) (fun i => i.1) (fun i => lay_len ..) (by intro h; cases h) ?_ (n, [], true) ⟨rfl, by simp, fun h => absurd h h0⟩
  rintro ⟨v, p, f⟩ ⟨h1, h2, h3⟩
  simp only at h1 h2 h3
  by_cases hv : v = 0
  · subst hv
    have hf := h3 rfl
    subst hf
    rw [grp_zero] at h1
    subst h1
    exact .inr (it_last hG)
  · have hl : v ≤ n := Nat.le_trans (Nat.le_mul_of_pos_right v (Nat.pow_pos (by omega))) h2
    have hp : p.length < 32 * 1073741824 + 1 := few hn hv h2
    refine .inl ⟨(v / 1000000000, grpOf v :: p, false), ⟨by rw [← grp_pos hv]; exact h1, ?_, fun _ => rfl⟩, by simp only; omega, it_round hG hT (v := v) (p := p) (f := f) hv (Nat.le_trans (len_mono hl) hn) (by omega)⟩
    simp only [List.length_cons, Nat.pow_succ]
    have a : v / 1000000000 * (2 ^ p.length * 2) = (v / 1000000000 * 2) * 2 ^ p.length := by rw [Nat.mul_comm (2 ^ p.length) 2, Nat.mul_assoc]
    rw [a]
    exact Nat.le_trans (Nat.mul_le_mul_right _ (by omega)) h2
/-- The text of an integer. -/
def decT (s : Bool) (n : Nat) : List UInt8 := if s then 45 :: decDigits n else decDigits n
theorem IText_spec (hG : Steady G) (hT : ∀ w, G w → Tab w) {s : Bool} {n : Nat} (hs : s = true → 0 < n) (hn : (words n).length ≤ 1073741824) : Spec Tryz.prog G 89 [wv s n] (txt (decT s n)) := by
  have h36 : (2:Nat) ^ 36 = 68719476736 := by decide
  have mg := mag_spec (G := G) hG hs (by omega)
  by_cases h0 : n = 0
  · subst h0
    cases s with
    | true => exact absurd (hs rfl) (by omega)
    | false => exact Spec.of_run hG Tryz.func89 (ro := [1, 36]) (m := 60) [.call mg] (by kernel_rfl)
  · have ng := neg_spec (G := G) hG hs (by omega)
    have lp := it_loop (G := G) hG hT (s := s) h0 hn
    have ef : (grp n []).flatten = decDigits n := by rw [grp_flat, if_neg h0]; simp
    have jn := Join_spec (G := G) hG (xs := grp n []) (sep := []) (grp_ne _ (.inl h0)) (by
      have a := flat_ge (grp n []) (fun x hx => (grp_each n [] x hx).elim (fun h => by cases h) id)
      rw [ef] at a
      have := dig_few hn (by omega)
      omega) (by rw [join_flat, ef]; have := dig_few hn (by omega); omega)
    rw [join_flat, ef] at jn
    have e0 := words_ne (n := n) (by omega)
    generalize grp n [] = P at lp jn
    cases s with
    | true => exact Spec.of_run hG Tryz.func89 (ro := [1, 36]) (m := 60) [.call mg, .eq 12 (Lw.eqB e0), .code lp, .call jn, .call ng, .prop (cat_need [45] (decDigits n) (by have := dig_few hn (by omega); simp only [List.length_cons, List.length_nil]; omega)), .eq 42 (cat_tx [45] (decDigits n))] (by kernel_rfl)
    | false => exact Spec.of_run hG Tryz.func89 (ro := [1, 36]) (m := 60) [.call mg, .eq 12 (Lw.eqB e0), .code lp, .call jn, .call ng] (by kernel_rfl)
end Lw
