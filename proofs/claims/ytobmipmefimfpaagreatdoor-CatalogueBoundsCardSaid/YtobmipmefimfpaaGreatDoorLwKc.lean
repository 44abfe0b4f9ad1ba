/- Catalogues: data, arguments opened, lengths, checks of lists. No condition. -/
import Derived.Test.YtobmipmefimfpaaGreatDoorLwFd
import Derived.Test.YtobmipmefimfpaaGreatDoorLwKb
namespace Lw
open Go Go.RowKit Go.Proofs Go.ChangeShapes Go.WideShapes Go.ChangeAt

/-! ### data -/
theorem Raw.cells_len (r : Raw) : r.cells.length = 3 := rfl
def Raw.zero : Raw := ⟨false, [], []⟩
def Raw.digs (r : Raw) : Prop := Dig r.n ∧ Dig r.d
structure RCt where
  g : List Raw
  a : List Raw
  b : List Raw
  c : List Raw
  p : List RPr
def RCt.cells (x : RCt) : List D := [rowS Raw.cells x.g, rowS Raw.cells x.a, rowS Raw.cells x.b, rowS Raw.cells x.c, rowS RPr.cells x.p]
def RCt.dat (x : RCt) : D := .agg x.cells
def RCt.lists (x : RCt) : D := .agg [rowS Raw.cells x.g, rowS Raw.cells x.a, rowS Raw.cells x.b, rowS Raw.cells x.c]
def RCt.list (x : RCt) (j : Nat) : List Raw := if j = 0 then x.g else if j = 1 then x.a else if j = 2 then x.b else x.c
def RCt.digs (x : RCt) : Prop := (∀ r ∈ x.g, r.digs) ∧ (∀ r ∈ x.a, r.digs) ∧ (∀ r ∈ x.b, r.digs) ∧ (∀ r ∈ x.c, r.digs) ∧ ∀ p ∈ x.p, p.digs
def RCt.far (x : RCt) : Prop := x.g.length ≤ 9223372036854775807 ∧ x.a.length ≤ 9223372036854775807 ∧ x.b.length ≤ 9223372036854775807 ∧ x.c.length ≤ 9223372036854775807 ∧ x.p.length ≤ 9223372036854775807
theorem four_cases {j : Nat} (h : j < 4) : j = 0 ∨ j = 1 ∨ j = 2 ∨ j = 3 := by omega
theorem RCt.list_far {x : RCt} (h : x.far) (j : Nat) : (x.list j).length ≤ 9223372036854775807 := by
  obtain ⟨h1, h2, h3, h4, -⟩ := h
  unfold RCt.list
  split
  · exact h1
  · split
    · exact h2
    · split
      · exact h3
      · exact h4
theorem RCt.list_digs {x : RCt} (h : x.digs) (j : Nat) : ∀ r ∈ x.list j, r.digs := by
  obtain ⟨h1, h2, h3, h4, -⟩ := h
  unfold RCt.list
  split
  · exact h1
  · split
    · exact h2
    · split
      · exact h3
      · exact h4

/-! ### arguments opened -/
section
variable {H : Type} {enc : TypeId × Value → H} {W : World} {fuel : Nat} {cs : List Value} {x : DataW H × List MemPlace}
theorem cells_rats : Tryz.prog.cellsOf 22 = 1 := by kernel_rfl
theorem cells_pairs : Tryz.prog.cellsOf 23 = 1 := by kernel_rfl
theorem cells_cat : Tryz.prog.cellsOf 25 = 5 := by kernel_rfl
theorem open_rats (h : DataW.trod enc Tryz.prog W 0 (fun _ => true) true fuel 22 cs = some x) : ∃ l : List Raw, (∀ r ∈ l, r.digs) ∧ l.length ≤ 9223372036854775807 ∧ Reps W NoX cs [rowS Raw.cells l] :=
  open_list (f := Raw.cells) (ok := Raw.digs) Tryz.underlying22 cells_rat (by omega) (fun h => by obtain ⟨r, q1, q2, q3⟩ := open_rat h; exact ⟨r, ⟨q1, q2⟩, q3⟩) h
theorem open_pairs (h : DataW.trod enc Tryz.prog W 0 (fun _ => true) true fuel 23 cs = some x) : ∃ l : List RPr, (∀ r ∈ l, r.digs) ∧ l.length ≤ 9223372036854775807 ∧ Reps W NoX cs [rowS RPr.cells l] :=
  open_list (f := RPr.cells) (ok := RPr.digs) Tryz.underlying23 cells_pair (by omega) (fun h => by obtain ⟨r, q1, q2, -⟩ := open_pair h; exact ⟨r, q1, q2⟩) h
theorem Reps.five {W : World} {X : Nat → Prop} {l : List Value} {p q r s t : List D} {a : Nat} (h : l.length = 5 * a) (h0 : Reps W X ((l.drop (0 * a)).take a) p) (h1 : Reps W X ((l.drop (1 * a)).take a) q) (h2 : Reps W X ((l.drop (2 * a)).take a) r) (h3 : Reps W X ((l.drop (3 * a)).take a) s) (h4 : Reps W X ((l.drop (4 * a)).take a) t) : Reps W X l (p ++ (q ++ (r ++ (s ++ t)))) := by
  have hl : (l.drop a).length = 4 * a := by rw [List.length_drop]; omega
  have e : l = l.take a ++ l.drop a := (List.take_append_drop a l).symm
  have k : Reps W X (l.drop a) (q ++ (r ++ (s ++ t))) := by
    refine Reps.four hl ?_ ?_ ?_ ?_
    · rw [List.drop_drop, show a + 0 * a = 1 * a by omega]; exact h1
    · rw [List.drop_drop, show a + 1 * a = 2 * a by omega]; exact h2
    · rw [List.drop_drop, show a + 2 * a = 3 * a by omega]; exact h3
    · rw [List.drop_drop, show a + 3 * a = 4 * a by omega]; exact h4
  rw [Nat.zero_mul, List.drop_zero] at h0
  have := Reps.append h0 k
  rw [← e] at this
  exact this
theorem cat_arg {v : Value} {d : DataW H} {ps : List MemPlace} (h : DataW.Trod enc Tryz.prog W 0 (fun _ => true) true 25 v d ps) : ∃ x : RCt, x.digs ∧ x.far ∧ RepP W NoX v x.dat := by
  obtain ⟨f, hf⟩ := h
  obtain ⟨xs, n, -, -, hc, hx, hf⟩ := DataW.trod_struct Tryz.underlying25 hf
  rw [cells_cat] at hc
  have hx2 : xs.length = 5 := hx
  obtain ⟨y0, e0⟩ := some_of (l := xs) (i := 0) (by omega)
  obtain ⟨y1, e1⟩ := some_of (l := xs) (i := 1) (by omega)
  obtain ⟨y2, e2⟩ := some_of (l := xs) (i := 2) (by omega)
  obtain ⟨y3, e3⟩ := some_of (l := xs) (i := 3) (by omega)
  obtain ⟨y4, e4⟩ := some_of (l := xs) (i := 4) (by omega)
  have f0 := field_read hf 0 _ rfl (t := 22) (off := 0) rfl rfl cells_rats
  have f1 := field_read hf 1 _ rfl (t := 22) (off := 1) rfl rfl cells_rats
  have f2 := field_read hf 2 _ rfl (t := 22) (off := 2) rfl rfl cells_rats
  have f3 := field_read hf 3 _ rfl (t := 22) (off := 3) rfl rfl cells_rats
  have f4 := field_read hf 4 _ rfl (t := 23) (off := 4) rfl rfl cells_pairs
  rw [e0] at f0
  rw [e1] at f1
  rw [e2] at f2
  rw [e3] at f3
  rw [e4] at f4
  obtain ⟨r0, a0, b0, q0⟩ := open_rats f0
  obtain ⟨r1, a1, b1, q1⟩ := open_rats f1
  obtain ⟨r2, a2, b2, q2⟩ := open_rats f2
  obtain ⟨r3, a3, b3, q3⟩ := open_rats f3
  obtain ⟨r4, a4, b4, q4⟩ := open_pairs f4
  exact ⟨⟨r0, r1, r2, r3, r4⟩, ⟨a0, a1, a2, a3, a4⟩, ⟨b0, b1, b2, b3, b4⟩, rep_agg (n := 3) hc (Reps.five (a := 1) hc q0 q1 q2 q3 q4)⟩
end

variable {G : World → Prop}
theorem CLists (hG : Steady G) (x : RCt) : Spec Tryz.prog G 30 [x.dat] x.lists :=
  Spec.of_run hG Tryz.func30 (ro := [1]) (m := 60) [] (by kernel_rfl)
theorem PLists_spec (hG : Steady G) (x : RCt) : Spec Tryz.prog G 42 [x.dat] x.lists :=
  Spec.of_run hG Tryz.func42 (ro := [1]) (m := 60) [] (by kernel_rfl)

/-! ### the first that fails -/
def firstN (p : Nat → Bool) : Nat → Option Nat
  | 0 => none
  | n + 1 => match firstN p n with
    | some i => some i
    | none => if p n then none else some n
theorem firstN_cases (p : Nat → Bool) : ∀ n, (firstN p n = none ∧ ∀ i, i < n → p i = true) ∨ ∃ i, firstN p n = some i ∧ i < n ∧ p i = false ∧ ∀ j, j < i → p j = true
  | 0 => .inl ⟨rfl, fun i h => by omega⟩
  | n + 1 => by
    rcases firstN_cases p n with ⟨h, g⟩ | ⟨i, h1, h2, h3, h4⟩
    · cases hp : p n with
      | true =>
        refine .inl ⟨by simp [firstN, h, hp], fun i hi => ?_⟩
        by_cases e : i = n
        · rw [e]; exact hp
        · exact g i (by omega)
      | false => exact .inr ⟨n, by simp [firstN, h, hp], by omega, hp, g⟩
    · exact .inr ⟨i, by simp [firstN, h1], by omega, h3, h4⟩

/-! ### Short -/
def Raw.len1 (r : Raw) : Prop := r.n.length ≤ 1 ∧ r.d.length ≤ 1
instance (r : Raw) : Decidable r.len1 := by unfold Raw.len1; infer_instance
def lenOk (n : Nat) : Prop := (n ≤ 4 ∨ 8 < n) ∧ n ≤ 100
instance (n : Nat) : Decidable (lenOk n) := by unfold lenOk; infer_instance
def listOk (l : List Raw) : Prop := lenOk l.length ∧ ∀ r ∈ l, r.len1
instance (l : List Raw) : Decidable (listOk l) := by unfold listOk; infer_instance
def RCt.short (x : RCt) : Prop := (∀ j, j < 4 → listOk (x.list j)) ∧ (∀ p ∈ x.p, p.short) ∧ x.p.length ≤ 60
def shcIn (x : RCt) (j : Nat) (l : List Raw) (i : Nat) : St := lay 67 [(1, .rptr x.cells), (10, x.lists), (11, nat j), (27, rowS Raw.cells l), (28, nat l.length), (29, nat i)] []
theorem shc_in (hG : Steady G) (x : RCt) (j : Nat) {l : List Raw} (hb : l.length ≤ 9223372036854775807) :
    ((∀ r ∈ l, r.len1) → Abs Tryz.prog G 67 0 (.loop (loopOf Tryz.f11 1)) (shcIn x j l 0) (.exit 2) (shcIn x j l l.length)) ∧
    (¬ (∀ r ∈ l, r.len1) → Abs Tryz.prog G 67 0 (.loop (loopOf Tryz.f11 1)) (shcIn x j l 0) .ret (lay 67 [(2, bool false)] [])) := by
  have good : ∀ i, i < l.length → (l.getD i Raw.zero).len1 → Goes Tryz.prog G 0 (loopOf Tryz.f11 1) (shcIn x j l i) .normal (shcIn x j l (i + 1)) := by
    intro i hi hs
    have e := aggS Raw.cells_len hi Raw.zero
    generalize l.getD i Raw.zero = r at e hs
    exact Goes.of_run hG (ro := []) (m := 60) (lay_len ..) [.eq 30 (Lw.eqB (lt_true hi)), .prop (atS_need Raw.cells_len (by omega) hi), .prop (loadS_need Raw.cells_len (by omega) hi), .eq 32 e, .eq 36 (Lw.eqB (gtk_false hs.1)), .eq 41 (Lw.eqB (gtk_false hs.2)), .eq 43 (eqS (nat_succ' hi hb))] (by kernel_rfl)
  have bad : ∀ i, i < l.length → ¬ (l.getD i Raw.zero).len1 → Goes Tryz.prog G 0 (loopOf Tryz.f11 1) (shcIn x j l i) .ret (lay 67 [(2, bool false)] []) := by
    intro i hi hs
    have e := aggS Raw.cells_len hi Raw.zero
    have n1 := atS_need Raw.cells_len (by omega) hi
    have n2 := loadS_need Raw.cells_len (by omega) hi
    generalize l.getD i Raw.zero = r at e hs
    by_cases g : r.n.length ≤ 1
    · exact Goes.of_run hG (ro := []) (m := 60) (lay_len ..) [.eq 30 (Lw.eqB (lt_true hi)), .prop n1, .prop n2, .eq 32 e, .eq 36 (Lw.eqB (gtk_false g)), .eq 41 (Lw.eqB (gtk_true (fun k => hs ⟨g, k⟩)))] (by kernel_rfl)
    · exact Goes.of_run hG (ro := []) (m := 60) (lay_len ..) [.eq 30 (Lw.eqB (lt_true hi)), .prop n1, .prop n2, .eq 32 e, .eq 36 (Lw.eqB (gtk_true g))] (by kernel_rfl)
  rcases all_or_first Raw.len1 Raw.zero l with h | ⟨i, h1, h2, h3⟩
  · exact ⟨fun _ => Abs.count (P := Tryz.prog) (Good := G) (gb := 0) (body := loopOf Tryz.f11 1) (e := .exit 2) (s' := shcIn x j l l.length) (fun i => shcIn x j l i) l.length (fun i => lay_len ..) (by intro h; cases h)
      (fun i hi => good i hi (h _ (getD_mem hi _))) (Goes.of_run hG (ro := []) (m := 60) (lay_len ..) [.eq 30 (Lw.eqB (lt_false (Nat.le_refl l.length)))] (by kernel_rfl)), fun g => absurd h g⟩
  · exact ⟨fun g => absurd (g _ (getD_mem h1 _)) h2, fun _ => Abs.count (P := Tryz.prog) (Good := G) (gb := 0) (body := loopOf Tryz.f11 1) (e := .ret) (s' := lay 67 [(2, bool false)] []) (fun i => shcIn x j l i) i (fun i => lay_len ..) (by intro h; cases h)
      (fun k hk => good k (by omega) (h3 k hk)) (bad i h1 h2)⟩
def shcOut (x : RCt) (j : Nat) : St := lay 67 [(1, .rptr x.cells), (10, x.lists), (11, nat j)] []
theorem shc_good (hG : Steady G) {x : RCt} (hb : x.far) {j : Nat} (hj : j < 4) (h : listOk (x.list j)) : Goes Tryz.prog G 0 (loopOf Tryz.f11 0) (shcOut x j) .normal (shcOut x (j + 1)) := by
  obtain ⟨⟨h1, h2⟩, h3⟩ := h
  have lp := (shc_in (G := G) hG x j (RCt.list_far hb j)).1 h3
  by_cases h4 : (x.list j).length ≤ 4
  · have e1 := Lw.eqB (gtk_false h4)
    have e2 := Lw.eqB (gtk_false h2)
    rcases four_cases hj with rfl | rfl | rfl | rfl <;> exact Goes.of_run hG (ro := []) (m := 60) (lay_len ..) [.eq 16 e1, .eq 25 e2, .code lp] (by kernel_rfl)
  · have h8 : ¬ (x.list j).length ≤ 8 := by omega
    have e1 := Lw.eqB (gtk_true h4)
    have e2 := Lw.eqB (gtk_false h2)
    have e3 := Lw.eqB ((le_k (n := (x.list j).length) (k := 8)).trans (decide_eq_false h8))
    rcases four_cases hj with rfl | rfl | rfl | rfl <;> exact Goes.of_run hG (ro := []) (m := 60) (lay_len ..) [.eq 16 e1, .eq 20 e3, .eq 25 e2, .code lp] (by kernel_rfl)
theorem shc_bad (hG : Steady G) {x : RCt} (hb : x.far) {j : Nat} (hj : j < 4) (h : ¬ listOk (x.list j)) : Goes Tryz.prog G 0 (loopOf Tryz.f11 0) (shcOut x j) .ret (lay 67 [(2, bool false)] []) := by
  by_cases h4 : (x.list j).length ≤ 4
  · have e1 := Lw.eqB (gtk_false h4)
    have e2 := Lw.eqB (gtk_false (show (x.list j).length ≤ 100 by omega))
    have lp := (shc_in (G := G) hG x j (RCt.list_far hb j)).2 (fun g => h ⟨⟨.inl h4, by omega⟩, g⟩)
    rcases four_cases hj with rfl | rfl | rfl | rfl <;> exact Goes.of_run hG (ro := []) (m := 60) (lay_len ..) [.eq 16 e1, .eq 25 e2, .code lp] (by kernel_rfl)
  · have e1 := Lw.eqB (gtk_true h4)
    by_cases h8 : (x.list j).length ≤ 8
    · have e3 := Lw.eqB ((le_k (n := (x.list j).length) (k := 8)).trans (decide_eq_true h8))
      rcases four_cases hj with rfl | rfl | rfl | rfl <;> exact Goes.of_run hG (ro := []) (m := 60) (lay_len ..) [.eq 16 e1, .eq 20 e3] (by kernel_rfl)
    · have e3 := Lw.eqB ((le_k (n := (x.list j).length) (k := 8)).trans (decide_eq_false h8))
      by_cases h2 : (x.list j).length ≤ 100
      · have e2 := Lw.eqB (gtk_false h2)
        have lp := (shc_in (G := G) hG x j (RCt.list_far hb j)).2 (fun g => h ⟨⟨.inr (by omega), h2⟩, g⟩)
        rcases four_cases hj with rfl | rfl | rfl | rfl <;> exact Goes.of_run hG (ro := []) (m := 60) (lay_len ..) [.eq 16 e1, .eq 20 e3, .eq 25 e2, .code lp] (by kernel_rfl)
      · have e2 := Lw.eqB (gtk_true h2)
        rcases four_cases hj with rfl | rfl | rfl | rfl <;> exact Goes.of_run hG (ro := []) (m := 60) (lay_len ..) [.eq 16 e1, .eq 20 e3, .eq 25 e2] (by kernel_rfl)
def RPr.tt (p : RPr) : RPl := ⟨p.i.t, p.o.t⟩
def shpInv (x : RCt) (i : Nat) : St := lay 67 [(1, .rptr x.cells), (46, rowS RPr.cells x.p), (47, nat x.p.length), (48, nat i)] []
theorem shp_round (hG : Steady G) {x : RCt} {i : Nat} (hi : i < x.p.length) (hb : x.p.length ≤ 9223372036854775807) :
    ((x.p.getD i RPr.zero).short → Goes Tryz.prog G 0 (loopOf Tryz.f11 2) (shpInv x i) .normal (shpInv x (i + 1))) ∧
    (¬ (x.p.getD i RPr.zero).short → Goes Tryz.prog G 0 (loopOf Tryz.f11 2) (shpInv x i) .ret (lay 67 [(2, bool false)] [])) := by
  have e := aggS RPr.cells_len hi RPr.zero
  have n1 := atS_need RPr.cells_len (by omega) hi
  have n2 := loadS_need RPr.cells_len (by omega) hi
  generalize x.p.getD i RPr.zero = r at e
  have s := ShortPlL (G := G) hG [r.tt] (by simp)
  have iff : (∀ q ∈ [r.tt], q.short) ↔ r.short := by
    simp only [List.mem_singleton, forall_eq]
    exact Iff.rfl
  constructor
  · intro hv
    rw [decide_eq_true (iff.2 hv)] at s
    exact Goes.of_run hG (ro := []) (m := 60) (lay_len ..) [.eq 49 (Lw.eqB (lt_true hi)), .prop n1, .prop n2, .eq 51 e, .call s, .eq 62 (eqS (nat_succ' hi hb))] (by kernel_rfl)
  · intro hv
    rw [decide_eq_false (fun g => hv (iff.1 g))] at s
    exact Goes.of_run hG (ro := []) (m := 60) (lay_len ..) [.eq 49 (Lw.eqB (lt_true hi)), .prop n1, .prop n2, .eq 51 e, .call s] (by kernel_rfl)
noncomputable instance (x : RCt) : Decidable x.short := Classical.propDecidable _
theorem CShort (hG : Steady G) {x : RCt} (hb : x.far) : Spec Tryz.prog G 11 [x.dat] (bool (decide x.short)) := by
  rcases firstN_cases (fun j => decide (listOk (x.list j))) 4 with ⟨-, h⟩ | ⟨j, -, h1, h2, h3⟩
  · have lo := Abs.count (P := Tryz.prog) (Good := G) (gb := 0) (body := loopOf Tryz.f11 0) (e := .exit 0) (s' := shcOut x 4) (fun i => shcOut x i) 4 (fun i => lay_len ..) (by intro h; cases h)
      (fun j hj => shc_good hG hb hj (of_decide_eq_true (h j hj))) (Goes.of_run hG (ro := []) (m := 60) (lay_len ..) [] (by kernel_rfl))
    rcases all_or_first RPr.short RPr.zero x.p with g | ⟨i, g1, g2, g3⟩
    · have e : decide x.short = decide (x.p.length ≤ 60) := decide_eq_decide.2 ⟨fun g => g.2.2, fun k => ⟨fun j hj => of_decide_eq_true (h j hj), g, k⟩⟩
      rw [e]
      have lp := Abs.count (P := Tryz.prog) (Good := G) (gb := 0) (body := loopOf Tryz.f11 2) (e := .exit 4) (s' := shpInv x x.p.length) (fun i => shpInv x i) x.p.length (fun i => lay_len ..) (by intro h; cases h)
        (fun i hi => (shp_round hG hi hb.2.2.2.2).1 (g _ (getD_mem hi _))) (Goes.of_run hG (ro := []) (m := 60) (lay_len ..) [.eq 49 (Lw.eqB (lt_false (Nat.le_refl x.p.length)))] (by kernel_rfl))
      exact Spec.of_run hG Tryz.func11 (ro := [1]) (m := 60) [.call (CLists hG x), .code lo, .code lp, .eq 66 (Lw.eqB (le_k (n := x.p.length) (k := 60)))] (by kernel_rfl)
    · rw [decide_eq_false fun k => g2 (k.2.1 _ (getD_mem g1 _))]
      have lp := Abs.count (P := Tryz.prog) (Good := G) (gb := 0) (body := loopOf Tryz.f11 2) (e := .ret) (s' := lay 67 [(2, bool false)] []) (fun i => shpInv x i) i (fun i => lay_len ..) (by intro h; cases h)
        (fun k hk => (shp_round hG (by omega) hb.2.2.2.2).1 (g3 k hk)) ((shp_round hG g1 hb.2.2.2.2).2 g2)
      exact Spec.of_run hG Tryz.func11 (ro := [1]) (m := 60) [.call (CLists hG x), .code lo, .code lp] (by kernel_rfl)
  · rw [decide_eq_false fun k => (of_decide_eq_false h2) (k.1 j h1)]
    have lo := Abs.count (P := Tryz.prog) (Good := G) (gb := 0) (body := loopOf Tryz.f11 0) (e := .ret) (s' := lay 67 [(2, bool false)] []) (fun i => shcOut x i) j (fun i => lay_len ..) (by intro h; cases h)
      (fun k hk => shc_good hG hb (by omega) (of_decide_eq_true (h3 k hk))) (shc_bad hG hb h1 (of_decide_eq_false h2))
    exact Spec.of_run hG Tryz.func11 (ro := [1]) (m := 60) [.call (CLists hG x), .code lo] (by kernel_rfl)
theorem RCt.list_ok {x : RCt} (h : x.digs) (s : x.short) {j : Nat} (hj : j < 4) : ∀ r ∈ x.list j, r.ok 1 := fun r hr => ⟨(RCt.list_digs h j r hr).1, (RCt.list_digs h j r hr).2, ((s.1 j hj).2 r hr).1, ((s.1 j hj).2 r hr).2, by omega⟩
theorem RCt.pairs_ok {x : RCt} (h : x.digs) (s : x.short) : ∀ r ∈ x.p, r.ok 2 := fun r hr => RPr.short_ok (h.2.2.2.2 r hr) (s.2.1 r hr)
end Lw
