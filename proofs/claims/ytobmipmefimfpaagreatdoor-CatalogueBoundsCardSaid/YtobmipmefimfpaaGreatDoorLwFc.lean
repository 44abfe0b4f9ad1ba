/- Arguments opened: pairs, generators, lists of pairs. No condition. -/
import Derived.Test.YtobmipmefimfpaaGreatDoorLwFb
namespace Lw
open Go Go.RowKit Go.Proofs Go.ChangeShapes Go.WideShapes Go.ChangeAt

section
variable {H : Type} {enc : TypeId × Value → H} {W : World} {fuel : Nat} {cs : List Value} {x : DataW H × List MemPlace}

theorem cells_pair : Tryz.prog.cellsOf 80 = 8 := by kernel_rfl
theorem cells_gen : Tryz.prog.cellsOf 72 = 12 := by kernel_rfl
theorem open_pair (h : DataW.trod enc Tryz.prog W 0 (fun _ => true) true fuel 80 cs = some x) : ∃ r : RPr, r.digs ∧ Reps W NoX cs r.cells ∧ cs.length = 8 := by
  obtain ⟨xs, n, -, -, hc, hx, hf⟩ := DataW.trod_struct Tryz.underlying80 h
  rw [cells_pair] at hc
  have hx2 : xs.length = 2 := hx
  obtain ⟨y0, e0⟩ := some_of (l := xs) (i := 0) (by omega)
  obtain ⟨y1, e1⟩ := some_of (l := xs) (i := 1) (by omega)
  have f0 := field_read hf 0 _ rfl (t := 78) (off := 0) rfl rfl cells_turn
  have f1 := field_read hf 1 _ rfl (t := 78) (off := 4) rfl rfl cells_turn
  rw [e0] at f0
  rw [e1] at f1
  obtain ⟨r1, a1, q1, -⟩ := open_turn f0
  obtain ⟨r2, b1, q2, -⟩ := open_turn f1
  exact ⟨⟨r1, r2⟩, ⟨a1, b1⟩, Reps.two (a := 4) (b := 4) hc q1 q2, hc⟩
theorem split_four {α : Type} {l : List α} {a : Nat} (h : l.length = 4 * a) : l = (l.drop (0 * a)).take a ++ ((l.drop (1 * a)).take a ++ ((l.drop (2 * a)).take a ++ (l.drop (3 * a)).take a)) := by
  have h1 : l = l.take a ++ l.drop a := (List.take_append_drop a l).symm
  have h2 : (l.drop a).length = 3 * a := by rw [List.length_drop]; omega
  have h3 := split_three h2
  rw [List.drop_drop, List.drop_drop, List.drop_drop] at h3
  have e1 : a + 0 * a = 1 * a := by omega
  have e2 : a + 1 * a = 2 * a := by omega
  have e3 : a + 2 * a = 3 * a := by omega
  rw [e1, e2, e3] at h3
  rw [Nat.zero_mul, List.drop_zero, ← h3]
  exact h1
theorem Reps.four {W : World} {X : Nat → Prop} {l : List Value} {p q r s : List D} {a : Nat} (h : l.length = 4 * a) (h1 : Reps W X ((l.drop (0 * a)).take a) p) (h2 : Reps W X ((l.drop (1 * a)).take a) q) (h3 : Reps W X ((l.drop (2 * a)).take a) r) (h4 : Reps W X ((l.drop (3 * a)).take a) s) : Reps W X l (p ++ (q ++ (r ++ s))) := by
  have e := split_four h
  have := Reps.append h1 (Reps.append h2 (Reps.append h3 h4))
  rw [← e] at this
  exact this
theorem open_gen (h : DataW.trod enc Tryz.prog W 0 (fun _ => true) true fuel 72 cs = some x) : ∃ r : RGn, r.digs ∧ Reps W NoX cs r.cells ∧ cs.length = 12 := by
  obtain ⟨xs, n, -, -, hc, hx, hf⟩ := DataW.trod_struct Tryz.underlying72 h
  rw [cells_gen] at hc
  have hx2 : xs.length = 4 := hx
  obtain ⟨y0, e0⟩ := some_of (l := xs) (i := 0) (by omega)
  obtain ⟨y1, e1⟩ := some_of (l := xs) (i := 1) (by omega)
  obtain ⟨y2, e2⟩ := some_of (l := xs) (i := 2) (by omega)
  obtain ⟨y3, e3⟩ := some_of (l := xs) (i := 3) (by omega)
  have f0 := field_read hf 0 _ rfl (t := 31) (off := 0) rfl rfl cells_rat
  have f1 := field_read hf 1 _ rfl (t := 31) (off := 3) rfl rfl cells_rat
  have f2 := field_read hf 2 _ rfl (t := 31) (off := 6) rfl rfl cells_rat
  have f3 := field_read hf 3 _ rfl (t := 31) (off := 9) rfl rfl cells_rat
  rw [e0] at f0
  rw [e1] at f1
  rw [e2] at f2
  rw [e3] at f3
  obtain ⟨r1, a1, a2, q1⟩ := open_rat f0
  obtain ⟨r2, b1, b2, q2⟩ := open_rat f1
  obtain ⟨r3, c1, c2, q3⟩ := open_rat f2
  obtain ⟨r4, d1, d2, q4⟩ := open_rat f3
  exact ⟨⟨r1, r2, r3, r4⟩, ⟨⟨a1, a2⟩, ⟨b1, b2⟩, ⟨c1, c2⟩, d1, d2⟩, Reps.four (a := 3) hc q1 q2 q3 q4, hc⟩
theorem pair_arg {v : Value} {d : DataW H} {ps : List MemPlace} (h : DataW.Trod enc Tryz.prog W 0 (fun _ => true) true 80 v d ps) : ∃ r : RPr, r.digs ∧ RepP W NoX v r.dat := by
  obtain ⟨f, hf⟩ := h
  obtain ⟨r, h1, h3, h4⟩ := open_pair hf
  exact ⟨r, h1, rep_agg (n := 6) h4 h3⟩
theorem gen_arg {v : Value} {d : DataW H} {ps : List MemPlace} (h : DataW.Trod enc Tryz.prog W 0 (fun _ => true) true 72 v d ps) : ∃ r : RGn, r.digs ∧ RepP W NoX v r.dat := by
  obtain ⟨f, hf⟩ := h
  obtain ⟨r, h1, h3, h4⟩ := open_gen hf
  exact ⟨r, h1, rep_agg (n := 10) h4 h3⟩
set_option maxRecDepth 100000 in
theorem pairlist_arg {r : Reach} {b0 : Nat} {v : Value} {d : DataW H} {ps : List MemPlace} (hval : Value.okWide Tryz.prog W r b0 23 v) (h : DataW.Trod enc Tryz.prog W 0 (fun _ => true) true 23 v d ps) : ∃ l : List RPr, (∀ r ∈ l, r.digs) ∧ l.length ≤ 9223372036854775807 ∧ RepP W NoX v (rowS RPr.cells l) := by
  obtain ⟨f, hf⟩ := h
  rw [slice_cells Tryz.underlying23 hval] at hf
  obtain ⟨l, h1, h2, h3⟩ := open_list (f := RPr.cells) (ok := RPr.digs) Tryz.underlying23 cells_pair (by omega) (fun h => by obtain ⟨r, q1, q2, -⟩ := open_pair h; exact ⟨r, q1, q2⟩) hf
  exact ⟨l, h1, h2, h3.head⟩
end
end Lw
