/- Arguments opened: four numbers, choices, trees of boxes. No condition. -/
import Derived.Test.YtobmipmefimfpaaGreatDoorLwKi
namespace Lw
open Go Go.RowKit Go.Proofs Go.ChangeShapes Go.WideShapes Go.ChangeAt

section
variable {H : Type} {enc : TypeId × Value → H} {W : World} {fuel : Nat} {cs : List Value} {x : DataW H × List MemPlace}

theorem cells_i : Tryz.prog.cellsOf 3 = 1 := by kernel_rfl
theorem cells_i4 : Tryz.prog.cellsOf 26 = 4 := by kernel_rfl
theorem cells_choice : Tryz.prog.cellsOf 46 = 7 := by kernel_rfl
theorem cells_tree : Tryz.prog.cellsOf 51 = 3 := by kernel_rfl
theorem cells_trees : Tryz.prog.cellsOf 49 = 1 := by kernel_rfl
theorem int_cell (h : DataW.trod enc Tryz.prog W 0 (fun _ => true) true fuel 3 cs = some x) : ∃ n : Int, cs = [.int .i64 n] := by
  obtain ⟨n, hc, -, -⟩ := DataW.trod_int Tryz.underlying3 h
  exact ⟨n, hc⟩
theorem four_of {α : Type} {l : List α} (h : l.length = 4) : ∃ a b c d, l = [a, b, c, d] := by
  match l, h with
  | [a, b, c, d], _ => exact ⟨a, b, c, d, rfl⟩
theorem el_int {n m : Nat} {xs : List (DataW H × List MemPlace)} (hf : ∀ (i : Nat), i < n → DataW.trod enc Tryz.prog W 0 (fun _ => true) true m 3 ((cs.drop (i * Tryz.prog.cellsOf 3)).take (Tryz.prog.cellsOf 3)) = xs[i]?) (hn : xs.length = n) (i : Nat) (hi : i < n) :
    ∃ v : Int, (cs.drop i).take 1 = [.int .i64 v] := by
  have h := hf i hi
  obtain ⟨y, e⟩ := some_of (l := xs) (i := i) (by omega)
  rw [e, cells_i, Nat.mul_one] at h
  exact int_cell h
theorem open_i4 (h : DataW.trod enc Tryz.prog W 0 (fun _ => true) true fuel 26 cs = some x) : ∃ r : I4, Reps W NoX cs r.cells ∧ cs.length = 4 := by
  obtain ⟨xs, m, -, -, hc, hn, hf⟩ := DataW.trod_array Tryz.underlying26 h
  obtain ⟨c0, c1, c2, c3, rfl⟩ := four_of (hc.trans cells_i4)
  obtain ⟨i, e0⟩ := el_int hf hn 0 (by omega)
  obtain ⟨j, e1⟩ := el_int hf hn 1 (by omega)
  obtain ⟨k, e2⟩ := el_int hf hn 2 (by omega)
  obtain ⟨l, e3⟩ := el_int hf hn 3 (by omega)
  simp only [List.drop_zero, List.drop_succ_cons, List.take_succ_cons, List.take_zero, List.cons.injEq] at e0 e1 e2 e3
  refine ⟨⟨i, j, k, l⟩, ?_, rfl⟩
  rw [e0.1, e1.1, e2.1, e3.1]
  exact Reps.cons (.lit _) (Reps.cons (.lit _) (Reps.cons (.lit _) (Reps.cons (.lit _) Reps.nil)))
theorem i4_arg {v : Value} {d : DataW H} {ps : List MemPlace} (h : DataW.Trod enc Tryz.prog W 0 (fun _ => true) true 26 v d ps) : ∃ r : I4, RepP W NoX v r.dat := by
  obtain ⟨f, hf⟩ := h
  obtain ⟨r, h1, h2⟩ := open_i4 hf
  exact ⟨r, rep_agg (n := 2) h2 h1⟩
theorem choice_arg {v : Value} {d : DataW H} {ps : List MemPlace} (h : DataW.Trod enc Tryz.prog W 0 (fun _ => true) true 46 v d ps) : ∃ (ix : I4) (r : Raw), r.digs ∧ RepP W NoX v (chR ix r) := by
  obtain ⟨f, hf⟩ := h
  obtain ⟨xs, n, -, -, hc, hx, hf⟩ := DataW.trod_struct Tryz.underlying46 hf
  rw [cells_choice] at hc
  have hx2 : xs.length = 2 := hx
  obtain ⟨y0, e0⟩ := some_of (l := xs) (i := 0) (by omega)
  obtain ⟨y1, e1⟩ := some_of (l := xs) (i := 1) (by omega)
  have f0 := field_read hf 0 _ rfl (t := 26) (off := 0) rfl rfl cells_i4
  have f1 := field_read hf 1 _ rfl (t := 31) (off := 4) rfl rfl cells_rat
  rw [e0] at f0
  rw [e1] at f1
  obtain ⟨r1, q1, -⟩ := open_i4 f0
  obtain ⟨r2, b1, b2, q2⟩ := open_rat f1
  exact ⟨r1, r2, ⟨b1, b2⟩, rep_agg (n := 5) hc (Reps.two (a := 4) (b := 3) hc q1 q2)⟩
/-- A slice of structs, each opened with less fuel. -/
theorem open_list' {α : Type} {f : α → List D} {ok : α → Prop} {t e : TypeId} {sz : Nat} (ht : Tryz.prog.underlying t = some (.slice e)) (hc : Tryz.prog.cellsOf e = sz) (h0 : 0 < sz)
    (one : ∀ {n : Nat} {cs : List Value} {x : DataW H × List MemPlace}, n < fuel → DataW.trod enc Tryz.prog W 0 (fun _ => true) true n e cs = some x → ∃ r, ok r ∧ Reps W NoX cs (f r))
    (h : DataW.trod enc Tryz.prog W 0 (fun _ => true) true fuel t cs = some x) : ∃ l : List α, (∀ r ∈ l, ok r) ∧ Reps W NoX cs [rowS f l] := by
  rcases DataW.trod_slice ht h with ⟨rfl, -⟩ | ⟨a, len, cap, elems, rest, n, hfuel, rfl, rfl, hb, hl, hm, hlen, hel, -, -⟩
  · exact ⟨[], (fun r hr => by cases hr), Reps.cons (nil_rep W NoX false) Reps.nil⟩
  · have each : ∀ i, i < len → ∃ p : α × List Value, ok p.1 ∧ Reps W NoX p.2 (f p.1) ∧ p.2.length = sz ∧ ∀ k, k < sz → W.cell? (a.add (i * sz + k)) = p.2[k]? := by
      intro i hi
      have he := hel i hi
      rw [hc, List.getElem?_eq_getElem (by omega), Option.bind_eq_some_iff] at he
      obtain ⟨us, h1, h2⟩ := he
      obtain ⟨r, g1, g2⟩ := one (by omega) h2
      obtain ⟨-, k2, k3⟩ := World.cells?_some h1
      refine ⟨(r, us), g1, g2, k2, fun k hk => ?_⟩
      have := k3 k hk
      rw [Addr.add_add] at this
      exact this
    obtain ⟨ps, p1, p2⟩ := list_of _ len each
    have hs : ∀ p ∈ ps, p.2.length = sz := fun p hp => by
      obtain ⟨i, hi, rfl⟩ := List.mem_iff_getElem.1 hp
      exact (p2 i hi).2.2.1
    have hr : ∀ p ∈ ps, Reps W NoX p.2 (f p.1) := fun p hp => by
      obtain ⟨i, hi, rfl⟩ := List.mem_iff_getElem.1 hp
      exact (p2 i hi).2.1
    have e1 : (ps.map (·.1)).flatMap f = ps.flatMap fun p => f p.1 := by rw [List.flatMap_map]
    have hreps := reps_flat hr
    have hlen' : (ps.flatMap fun p => p.2).length = len * sz := by rw [flat_len' hs, p1]
    refine ⟨ps.map (·.1), fun r hr => ?_, Reps.cons ?_ Reps.nil⟩
    · obtain ⟨p, hp, rfl⟩ := List.mem_map.1 hr
      obtain ⟨i, hi, rfl⟩ := List.mem_iff_getElem.1 hp
      exact (p2 i hi).1
    · unfold rowS
      rw [e1, List.length_map, p1]
      refine .row (some a) len cap false (ps.flatMap fun p => p.2) _ hreps.1 hl hm (fun h => by cases h) (fun j hj => ⟨a, rfl, fun h => h, ?_⟩) hreps.2
      have hj' : j < len * sz := by rw [← hlen']; exact hj
      have hq : j / sz < ps.length := by rw [p1]; exact (Nat.div_lt_iff_lt_mul h0).2 hj'
      have hk : j % sz < sz := Nat.mod_lt _ h0
      have ej : j / sz * sz + j % sz = j := by rw [Nat.mul_comm]; exact Nat.div_add_mod j sz
      have c1 := (p2 (j / sz) hq).2.2.2 (j % sz) hk
      have c2 := flat_get hs (j / sz) (j % sz) hk hq
      rw [ej] at c1 c2
      rw [c1, ← c2]
      exact List.getElem?_eq_getElem hj
theorem row_less {X : Nat → Prop} {v : Value} {n : Nat} {f : Bool} {xs : List D} (h : RepP W X v (.row n f xs)) : RepP W X v (.row n f []) := by
  cases h with
  | row a len cap full us _ hl hlen hcap hf hm hr => exact .row a n cap f [] [] rfl hlen hcap hf (fun i h => absurd h (by simp)) (fun i h => absurd h (by simp))
theorem open_tree : ∀ (fuel : Nat) {cs : List Value} {x : DataW H × List MemPlace}, DataW.trod enc Tryz.prog W 0 (fun _ => true) true fuel 51 cs = some x → ∃ t : Bt, t.wf ∧ Reps W NoX cs t.cells ∧ cs.length = 3 := by
  intro fuel
  induction fuel using Nat.strongRecOn with
  | _ fuel ih =>
    intro cs x h
    obtain ⟨xs, n, hn, -, hc, hx, hf⟩ := DataW.trod_struct Tryz.underlying51 h
    rw [cells_tree] at hc
    have hx2 : xs.length = 3 := hx
    obtain ⟨y0, e0⟩ := some_of (l := xs) (i := 0) (by omega)
    obtain ⟨y1, e1⟩ := some_of (l := xs) (i := 1) (by omega)
    obtain ⟨y2, e2⟩ := some_of (l := xs) (i := 2) (by omega)
    have f0 := field_read hf 0 _ rfl (t := 3) (off := 0) rfl rfl cells_i
    have f1 := field_read hf 1 _ rfl (t := 3) (off := 1) rfl rfl cells_i
    have f2 := field_read hf 2 _ rfl (t := 49) (off := 2) rfl rfl cells_trees
    rw [e0] at f0
    rw [e1] at f1
    rw [e2] at f2
    obtain ⟨a, q0⟩ := int_cell f0
    obtain ⟨i, q1⟩ := int_cell f1
    obtain ⟨l, ok, q2⟩ := open_list' (f := Bt.cells) (ok := Bt.wf) Tryz.underlying49 cells_tree (by omega) (fun hlt h => by obtain ⟨t, g1, g2, -⟩ := ih _ (by omega) h; exact ⟨t, g1, g2⟩) f2
    have p0 : Reps W NoX ((cs.drop (0 * 1)).take 1) [int a] := by rw [Nat.zero_mul, q0]; exact Reps.cons (.lit _) Reps.nil
    have p1 : Reps W NoX ((cs.drop (1 * 1)).take 1) [int i] := by rw [Nat.one_mul, q1]; exact Reps.cons (.lit _) Reps.nil
    have p2 : Reps W NoX ((cs.drop (2 * 1)).take 1) [rowS Bt.cells l] := q2
    match l, ok, p2 with
    | [], _, p2 => exact ⟨.leaf a i, trivial, Reps.three (a := 1) hc p0 p1 p2, hc⟩
    | [l, r], ok, p2 => exact ⟨.two a i l r, ⟨ok l (by simp), ok r (by simp)⟩, Reps.three (a := 1) hc p0 p1 p2, hc⟩
    | [l], _, p2 =>
      refine ⟨.odd a i 1, ⟨by decide, by decide⟩, Reps.three (a := 1) hc p0 p1 ?_, hc⟩
      generalize (cs.drop (2 * 1)).take 1 = us at p2
      match us, p2 with
      | [u], p2 => exact Reps.cons (row_less p2.head) Reps.nil
      | [], p2 => exact absurd p2.1 (by simp)
      | _ :: _ :: _, p2 => exact absurd p2.1 (by simp)
    | l :: r :: s :: k, _, p2 =>
      refine ⟨.odd a i (k.length + 3), ⟨by omega, by omega⟩, Reps.three (a := 1) hc p0 p1 ?_, hc⟩
      generalize (cs.drop (2 * 1)).take 1 = us at p2
      match us, p2 with
      | [u], p2 => exact Reps.cons (row_less p2.head) Reps.nil
      | [], p2 => exact absurd p2.1 (by simp)
      | _ :: _ :: _, p2 => exact absurd p2.1 (by simp)
theorem tree_arg {v : Value} {d : DataW H} {ps : List MemPlace} (h : DataW.Trod enc Tryz.prog W 0 (fun _ => true) true 51 v d ps) : ∃ t : Bt, t.wf ∧ RepP W NoX v t.dat := by
  obtain ⟨f, hf⟩ := h
  obtain ⟨t, h1, h3, h4⟩ := open_tree _ hf
  exact ⟨t, h1, rep_agg (n := 1) h4 h3⟩
end
end Lw
