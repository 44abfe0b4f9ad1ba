/- Arguments opened, their lengths bounded by the bulk of what was read: words, fractions, numbers, towers. No condition. -/
import Derived.Test.YtmcpfihkambgnaaGreatLwNn
import Derived.Test.YtmcpfihkambgnaaGreatRows
namespace Lw
open Go Go.RowKit Go.Proofs Go.ChangeShapes Go.WideShapes Go.ChangeAt Tw

section
variable {H : Type} {enc : TypeId × Value → H} {W : World} {fuel : Nat} {cs : List Value} {x : DataW H × List MemPlace}
abbrev bulk (d : DataW H) : Nat := Go.Proofs.YtmcpfihkambgnaaGreat.Rows.uptoBulk d
abbrev bulks (l : List (DataW H)) : Nat := Go.Proofs.YtmcpfihkambgnaaGreat.Rows.uptoBulkAll l
theorem bulk_part {d : DataW H} {l : List (DataW H)} (h : d ∈ l) : bulk d ≤ bulks l := by
  induction l with
  | nil => cases h
  | cons x r ih =>
    show Go.Proofs.YtmcpfihkambgnaaGreat.Rows.uptoBulk d ≤ Go.Proofs.YtmcpfihkambgnaaGreat.Rows.uptoBulkAll (x :: r)
    simp only [Go.Proofs.YtmcpfihkambgnaaGreat.Rows.uptoBulkAll]
    rcases List.mem_cons.1 h with e | e
    · subst e; omega
    · have := ih e; simp only [bulks, bulk] at this; omega
theorem bulk_one (d : DataW H) : 1 ≤ bulk d := by
  cases d with
  | lit l => cases l <;> simp [bulk, Go.Proofs.YtmcpfihkambgnaaGreat.Rows.uptoBulk]
  | _ => simp [bulk, Go.Proofs.YtmcpfihkambgnaaGreat.Rows.uptoBulk]
theorem bulk_length (l : List (DataW H)) : l.length ≤ bulks l := by
  induction l with
  | nil => simp
  | cons x r ih => have := bulk_one x; simp only [bulks, bulk, Go.Proofs.YtmcpfihkambgnaaGreat.Rows.uptoBulkAll, List.length_cons] at *; omega
theorem bulk_slice {es rs : List (DataW H)} : bulks es ≤ bulk (.slice es rs) := by simp only [bulk, bulks, Go.Proofs.YtmcpfihkambgnaaGreat.Rows.uptoBulk]; omega
theorem bulk_agg {ps : List (DataW H)} : bulks ps ≤ bulk (.agg ps) := by simp only [bulk, bulks, Go.Proofs.YtmcpfihkambgnaaGreat.Rows.uptoBulk]; omega
theorem bulk_row {t e : TypeId} (ht : Tryz.prog.underlying t = some (.slice e)) (h : DataW.trod enc Tryz.prog W 0 (fun _ => true) true fuel t cs = some x) {k : Nat} {full : Bool} {xs : List D} (hr : Reps W NoX cs [.row k full xs]) : k ≤ bulk x.1 := by
  rcases DataW.trod_slice ht h with ⟨rfl, -⟩ | ⟨a, len, cap, elems, rest, n, _, rfl, rfl, hb, hl, hm, hlen, hel, -, -⟩
  · have := hr.head
    cases this
    exact Nat.zero_le _
  · have := hr.head
    cases this
    have h1 := bulk_length (elems.map (·.1))
    have h2 := bulk_slice (es := elems.map (·.1)) (rs := rest.map (·.1))
    rw [List.length_map] at h1
    show _ ≤ bulk (DataW.slice (elems.map (·.1)) (rest.map (·.1)))
    omega
def RawB (r : Raw) (b : Nat) : Prop := (r.n.length ≤ b ∧ r.d.length ≤ b) ∧ Tw.Raw.digs' r
theorem open_ratB (h : DataW.trod enc Tryz.prog W 0 (fun _ => true) true fuel 51 cs = some x) : ∃ r : Raw, RawB r (bulk x.1) ∧ Reps W NoX cs r.cells := by
  obtain ⟨xs, n, -, hxx, hc, hx, hf⟩ := DataW.trod_struct Tryz.underlying51 h
  rw [cells_rat] at hc
  obtain ⟨c0, c1, c2, rfl⟩ := three hc
  have hx3 : xs.length = 3 := hx
  obtain ⟨y0, e0⟩ := some_of (l := xs) (i := 0) (by omega)
  obtain ⟨y1, e1⟩ := some_of (l := xs) (i := 1) (by omega)
  obtain ⟨y2, e2⟩ := some_of (l := xs) (i := 2) (by omega)
  have f0 := field_read hf 0 _ rfl (t := 4) (off := 0) rfl rfl cells_bool
  have f1 := field_read hf 1 _ rfl (t := 49) (off := 1) rfl rfl cells_words
  have f2 := field_read hf 2 _ rfl (t := 49) (off := 2) rfl rfl cells_words
  rw [e0] at f0
  rw [e1] at f1
  rw [e2] at f2
  have f0 : DataW.trod enc Tryz.prog W 0 (fun _ => true) true n 4 [c0] = some y0 := f0
  have f1 : DataW.trod enc Tryz.prog W 0 (fun _ => true) true n 49 [c1] = some y1 := f1
  have f2 : DataW.trod enc Tryz.prog W 0 (fun _ => true) true n 49 [c2] = some y2 := f2
  obtain ⟨b, hb, -⟩ := DataW.trod_bool Tryz.underlying4 f0
  obtain ⟨l1, d1, r1⟩ := open_words f1
  obtain ⟨l2, d2, r2⟩ := open_words f2
  have b1 := bulk_row Tryz.underlying49 f1 r1
  have b2 := bulk_row Tryz.underlying49 f2 r2
  have p1 : bulk y1.1 ≤ bulk x.1 := by
    rw [hxx]
    exact Nat.le_trans (bulk_part (List.mem_map.2 ⟨y1, List.mem_of_getElem? e1, rfl⟩)) bulk_agg
  have p2 : bulk y2.1 ≤ bulk x.1 := by
    rw [hxx]
    exact Nat.le_trans (bulk_part (List.mem_map.2 ⟨y2, List.mem_of_getElem? e2, rfl⟩)) bulk_agg
  simp only [List.cons.injEq, and_true] at hb
  subst hb
  exact ⟨⟨b, l1, l2⟩, ⟨⟨Nat.le_trans b1 p1, Nat.le_trans b2 p2⟩, d1, d2⟩, Reps.cons (.lit _) (Reps.append r1 r2)⟩
theorem list_ofB {α : Type} (p : Nat → α → Prop) : ∀ n : Nat, (∀ i, i < n → ∃ r, p i r) → ∃ l : List α, l.length = n ∧ ∀ i (h : i < l.length), p i l[i]
  | 0, _ => ⟨[], rfl, fun i h => by cases h⟩
  | n + 1, h => by
    obtain ⟨l, h1, h2⟩ := list_ofB p n fun i hi => h i (by omega)
    obtain ⟨r, hr⟩ := h n (by omega)
    refine ⟨l ++ [r], by simp [h1], fun i hi => ?_⟩
    by_cases hl : i < l.length
    · rw [List.getElem_append_left hl]; exact h2 i hl
    · have : i = n := by simp at hi; omega
      subst this
      rw [List.getElem_append_right (by omega)]
      simpa using hr
theorem flat_getB {α β : Type} {f : α → List β} {sz : Nat} : ∀ {l : List α} (_ : ∀ x ∈ l, (f x).length = sz) (i k : Nat) (_ : k < sz) (hi : i < l.length), (l.flatMap f)[i * sz + k]? = (f l[i])[k]?
  | [], _, i, k, hk, hi => by cases hi
  | x :: l, hf, 0, k, hk, hi => by
    have := hf x (by simp)
    rw [List.flatMap_cons, Nat.zero_mul, Nat.zero_add, List.getElem?_append_left (by omega)]
    rfl
  | x :: l, hf, i + 1, k, hk, hi => by
    have hx := hf x (by simp)
    rw [List.flatMap_cons, List.getElem?_append_right (by rw [hx, Nat.succ_mul]; omega), hx]
    have e : (i + 1) * sz + k - sz = i * sz + k := by rw [Nat.succ_mul]; omega
    rw [e]
    exact flat_getB (l := l) (fun y hy => hf y (by simp [hy])) i k hk (by simpa using hi)
theorem flat_lenB {α β : Type} {f : α → List β} {sz : Nat} : ∀ {l : List α} (_ : ∀ x ∈ l, (f x).length = sz), (l.flatMap f).length = l.length * sz
  | [], _ => by simp
  | x :: l, hf => by rw [List.flatMap_cons, List.length_append, hf x (by simp), flat_lenB (l := l) (fun y hy => hf y (by simp [hy])), List.length_cons, Nat.succ_mul]; omega
theorem reps_flatB {α : Type} {W : World} {X : Nat → Prop} {f : α → List Value} {g : α → List D} : ∀ {l : List α} (_ : ∀ x ∈ l, Reps W X (f x) (g x)), Reps W X (l.flatMap f) (l.flatMap g)
  | [], _ => by simpa using Reps.nil
  | x :: l, h => by
    rw [List.flatMap_cons, List.flatMap_cons]
    exact Reps.append (h x (by simp)) (reps_flatB (l := l) fun y hy => h y (by simp [hy]))
theorem open_listB {α : Type} {f : α → List D} {ok : α → Nat → Prop} {t e : TypeId} {sz : Nat} (mono : ∀ r a b, ok r a → a ≤ b → ok r b) (ht : Tryz.prog.underlying t = some (.slice e)) (hc : Tryz.prog.cellsOf e = sz) (h0 : 0 < sz)
    (one : ∀ {n : Nat} {cs : List Value} {x : DataW H × List MemPlace}, DataW.trod enc Tryz.prog W 0 (fun _ => true) true n e cs = some x → ∃ r, ok r (bulk x.1) ∧ Reps W NoX cs (f r))
    (h : DataW.trod enc Tryz.prog W 0 (fun _ => true) true fuel t cs = some x) : ∃ l : List α, (∀ r ∈ l, ok r (bulk x.1)) ∧ l.length ≤ bulk x.1 ∧ Reps W NoX cs [rowS f l] := by
  rcases DataW.trod_slice ht h with ⟨rfl, -⟩ | ⟨a, len, cap, elems, rest, n, _, rfl, rfl, hb, hl, hm, hlen, hel, -, -⟩
  · exact ⟨[], (fun r hr => by cases hr), by simp, Reps.cons (nil_rep W NoX false) Reps.nil⟩
  · have bk : bulks (elems.map (·.1)) ≤ bulk (DataW.slice (elems.map (·.1)) (rest.map (·.1))) := bulk_slice
    have each : ∀ i, i < len → ∃ p : α × List Value, ok p.1 (bulk (DataW.slice (elems.map (·.1)) (rest.map (·.1)))) ∧ Reps W NoX p.2 (f p.1) ∧ p.2.length = sz ∧ ∀ k, k < sz → W.cell? (a.add (i * sz + k)) = p.2[k]? := by
      intro i hi
      have he := hel i hi
      rw [hc, List.getElem?_eq_getElem (by omega), Option.bind_eq_some_iff] at he
      obtain ⟨us, h1, h2⟩ := he
      obtain ⟨r, g1, g2⟩ := one h2
      obtain ⟨-, k2, k3⟩ := World.cells?_some h1
      refine ⟨(r, us), mono _ _ _ g1 (Nat.le_trans (bulk_part (List.mem_map.2 ⟨_, List.getElem_mem _, rfl⟩)) bk), g2, k2, fun k hk => ?_⟩
      have := k3 k hk
      rw [Addr.add_add] at this
      exact this
    obtain ⟨ps, p1, p2⟩ := list_ofB _ len each
    have hs : ∀ p ∈ ps, p.2.length = sz := fun p hp => by
      obtain ⟨i, hi, rfl⟩ := List.mem_iff_getElem.1 hp
      exact (p2 i hi).2.2.1
    have hr : ∀ p ∈ ps, Reps W NoX p.2 (f p.1) := fun p hp => by
      obtain ⟨i, hi, rfl⟩ := List.mem_iff_getElem.1 hp
      exact (p2 i hi).2.1
    have e1 : (ps.map (·.1)).flatMap f = ps.flatMap fun p => f p.1 := by rw [List.flatMap_map]
    have hreps := reps_flatB hr
    have hlen' : (ps.flatMap fun p => p.2).length = len * sz := by rw [flat_lenB hs, p1]
    have bl := bulk_length (elems.map (·.1))
    rw [List.length_map] at bl
    refine ⟨ps.map (·.1), fun r hr => ?_, by rw [List.length_map, p1]; show _ ≤ bulk (DataW.slice (elems.map (·.1)) (rest.map (·.1))); omega, Reps.cons ?_ Reps.nil⟩
    · obtain ⟨p, hp, rfl⟩ := List.mem_map.1 hr
      obtain ⟨i, hi, rfl⟩ := List.mem_iff_getElem.1 hp
      exact (p2 i hi).1
    · unfold rowS
      rw [e1, List.length_map, p1]
      refine .row (some a) len cap false (ps.flatMap fun p => p.2) _ hreps.1 hl hm (fun h => by cases h) (fun j hj => ⟨a, rfl, fun h => h, ?_⟩) hreps.2
      have hj' : j < len * sz := by rw [← hlen']; exact hj
      have hq : j / sz < ps.length := by rw [p1]; exact (Nat.div_lt_iff_lt_mul h0).2 hj'
      have hk : j % sz < sz := Nat.mod_lt _ h0
      have ej : j / sz * sz + j % sz = j := by rw [Nat.mul_comm]; exact Nat.div_add_mod j sz
      have c1 := (p2 (j / sz) hq).2.2.2 (j % sz) hk
      have c2 := flat_getB hs (j / sz) (j % sz) hk hq
      rw [ej] at c1 c2
      rw [c1, ← c2]
      exact List.getElem?_eq_getElem hj
theorem cells_num : Tryz.prog.cellsOf 68 = 1 := by kernel_rfl
theorem RawB.mono (r : Raw) (a b : Nat) (h : RawB r a) (hab : a ≤ b) : RawB r b := ⟨⟨Nat.le_trans h.1.1 hab, Nat.le_trans h.1.2 hab⟩, h.2⟩
def RawsB (l : List Raw) (b : Nat) : Prop := l.length ≤ b ∧ ∀ r ∈ l, RawB r b
theorem RawsB.mono (r : List Raw) (a b : Nat) (h : RawsB r a) (hab : a ≤ b) : RawsB r b := ⟨Nat.le_trans h.1 hab, fun q hq => RawB.mono q a b (h.2 q hq) hab⟩
theorem open_numB (h : DataW.trod enc Tryz.prog W 0 (fun _ => true) true fuel 68 cs = some x) : ∃ l : List Raw, RawsB l (bulk x.1) ∧ Reps W NoX cs [rawD l] := by
  obtain ⟨l, h1, h2, h3⟩ := open_listB (f := Raw.cells) (ok := RawB) RawB.mono Tryz.underlying68 cells_rat (by omega) open_ratB h
  exact ⟨l, ⟨h2, h1⟩, h3⟩
theorem open_rootsB (h : DataW.trod enc Tryz.prog W 0 (fun _ => true) true fuel 41 cs = some x) : ∃ t : List (List Raw), (∀ d ∈ t, RawsB d (bulk x.1)) ∧ t.length ≤ bulk x.1 ∧ Reps W NoX cs [.row t.length false (t.map rawD)] := by
  obtain ⟨t, h1, h2, h3⟩ := open_listB (f := fun l => [rawD l]) (ok := RawsB) RawsB.mono Tryz.underlying41 cells_num (by omega) open_numB h
  refine ⟨t, h1, h2, ?_⟩
  unfold rowS at h3
  have e : ∀ t : List (List Raw), t.flatMap (fun l => [rawD l]) = t.map rawD := by
    intro t
    induction t with
    | nil => rfl
    | cons a t ih => rw [List.flatMap_cons, ih]; rfl
  rw [e] at h3; exact h3
set_option maxRecDepth 100000 in
theorem tower_argB {r : Reach} {b0 : Nat} {v : Value} {d : DataW H} {ps : List MemPlace} (hval : Value.okWide Tryz.prog W r b0 43 v) (h : DataW.Trod enc Tryz.prog W 0 (fun _ => true) true 43 v d ps) : ∃ t : List (List Raw), (∀ r ∈ t, RawsB r (bulk d)) ∧ t.length ≤ bulk d ∧ RepP W NoX v (rawT t) := by
  obtain ⟨f, hf⟩ := h
  obtain ⟨xs, n, -, hxx, hc, hx, hff⟩ := DataW.trod_struct Tryz.underlying43 hf
  have hc1 : v.cells.toList.length = 1 := hc.trans (by kernel_rfl)
  have hx1 : xs.length = 1 := hx
  obtain ⟨y0, e0⟩ := some_of (l := xs) (i := 0) (by omega)
  obtain ⟨c0, hc0⟩ := List.length_eq_one_iff.1 hc1
  rw [hc0] at hff
  have f0 := field_read hff 0 _ rfl (t := 41) (off := 0) rfl rfl (by kernel_rfl : Tryz.prog.cellsOf 41 = 1)
  rw [e0] at f0
  have f0 : DataW.trod enc Tryz.prog W 0 (fun _ => true) true n 41 [c0] = some y0 := f0
  obtain ⟨t, h1, h2, h3⟩ := open_rootsB f0
  have p0 : bulk y0.1 ≤ bulk d := by
    have hd : d = .agg (xs.map (·.1)) := congrArg (·.1) hxx
    rw [hd]
    exact Nat.le_trans (bulk_part (List.mem_map.2 ⟨y0, List.mem_of_getElem? e0, rfl⟩)) bulk_agg
  refine ⟨t, fun r hr => RawsB.mono r _ _ (h1 r hr) p0, Nat.le_trans h2 p0, ?_⟩
  obtain ⟨vs, rfl, -⟩ := okWide_struct Tryz.underlying43 hval
  have hv : Value.agg vs = .agg #[c0] := by
    have e : vs.toList = [c0] := hc0
    rw [show vs = #[c0] from Array.toList_inj.1 e]
  rw [hv]
  exact .agg [c0] _ h3.1 h3.2
set_option maxRecDepth 100000 in
theorem num_argB {r : Reach} {b0 : Nat} {v : Value} {d : DataW H} {ps : List MemPlace} (hval : Value.okWide Tryz.prog W r b0 68 v) (h : DataW.Trod enc Tryz.prog W 0 (fun _ => true) true 68 v d ps) : ∃ l : List Raw, RawsB l (bulk d) ∧ RepP W NoX v (rawD l) := by
  obtain ⟨f, hf⟩ := h
  obtain ⟨a, len, cap, rfl⟩ := okWide_slice Tryz.underlying68 hval
  obtain ⟨l, h1, h2⟩ := open_numB hf
  exact ⟨l, h1, h2.head⟩
/-- What the bound of the statement gives. -/
theorem fits_of {t : List (List Raw)} {a : List Raw} {x y : Nat} (h1 : ∀ r ∈ t, RawsB r x) (h2 : t.length ≤ x) (h3 : RawsB a y) (h : x + y ≤ 1048576) : Tw.Fits t a where
  tl := by omega
  dl := fun d hd => ⟨by have := (h1 d hd).1; omega, fun r hr => ⟨⟨by have := ((h1 d hd).2 r hr).1.1; omega, by have := ((h1 d hd).2 r hr).1.2; omega⟩, ((h1 d hd).2 r hr).2⟩⟩
  al := by have := h3.1; omega
  ar := fun r hr => ⟨⟨by have := (h3.2 r hr).1.1; omega, by have := (h3.2 r hr).1.2; omega⟩, (h3.2 r hr).2⟩
end
end Lw
