/- 'eff' tells the truth: what an operation does to abstract data is what it does. No condition. -/
import Derived.Test.YtfdllnbmjlhliaaGreatDoorLwB
import Derived.Laws.Entries
import Derived.Great.FillDense
import Derived.Great.BuildSlice
import Derived.Laws.NewFold
import Derived.ChangeKeysEq
namespace Lw
open Go Go.RowKit

variable {c : Ctx} {n : Nat} {s : FS} {a : Act} {w : World} {β : Nat → Nat} {X : Nat → Prop}

theorem ev_rep (h : RelB c n s a w β X) (x : Operand) : RepV β w X (a.eval x) (s.ev x) := by
  cases x with
  | tmp t => exact h.tmp t
  | const v => exact .p (D.ofVal_rep w X v)
  | global g => exact .p (.lit _)
  | func f => exact .p (.lit _)
theorem ofCell_ref (v : Value) : (D.ofCell v).ref = none := by unfold D.ofCell; split <;> rfl
theorem ofVal_ref (v : Value) : (D.ofVal v).ref = none := by unfold D.ofVal; split <;> rfl
theorem ev_nd (h : RelB c n s a w β X) (x : Operand) (b : Nat) (hb : (s.ev x).ref = some b) : (s.blk b).isSome = true := by
  cases x with
  | tmp t => exact h.nd t b hb
  | const v => simp [FS.ev, ofVal_ref] at hb
  | global g => simp [FS.ev, D.ref] at hb
  | func f => simp [FS.ev, D.ref] at hb
theorem ev_val (h : RelB c n s a w β X) {x : Operand} {v : Value} (e : (s.ev x).toVal = some v) : a.eval x = v :=
  toVal_eq ((ev_rep h x).pure (toVal_ref e)) e
theorem ev_cells (h : RelB c n s a w β X) {x : Operand} {xs : List D} (e : (s.ev x).cells = some xs) : Reps w X (a.eval x).cells.toList xs :=
  cells_rep ((ev_rep h x).pure (cells_ref e)) e

theorem Reps.takeAll {us : List Value} {cs : List D} (h : Reps w X us cs) : Reps w X (us.take cs.length) cs := by
  rw [← h.1, List.take_length]; exact h
theorem splice_take {α : Type} (l vs : List α) (off k : Nat) (h : off + vs.length ≤ k) (hk : k ≤ l.length) :
    (l.take off ++ vs ++ l.drop (off + vs.length)).take k = (l.take k).take off ++ (vs ++ (l.take k).drop (off + vs.length)) := by
  apply List.ext_getElem?
  intro i
  simp only [List.getElem?_take, List.getElem?_append, List.getElem?_drop, List.length_take, List.length_append]
  by_cases h1 : i < off
  · simp [h1, show i < k by omega, show off ≤ l.length by omega, show i < off + vs.length by omega]
    intro h9; omega
  · by_cases h2 : i < off + vs.length
    · simp [h1, show i < k by omega, show min off l.length = off by omega, show min off (min k l.length) = off by omega, h2, show i - off < vs.length by omega]
    · by_cases h3 : i < k
      · simp [h1, h3, show min off l.length = off by omega, show min off (min k l.length) = off by omega, h2, show ¬ i - off < vs.length by omega]
        rw [if_pos (by omega)]
        congr 1; omega
      · simp [h3, show ¬ i < min off (min k l.length) by omega, show ¬ i - min off (min k l.length) < vs.length by omega]
        intro h9; omega

/-- What 'eff' promises. -/
def EffOk (c : Ctx) (n : Nat) (s : FS) (a : Act) (w : World) (β : Nat → Nat) (X : Nat → Prop) (nb : Nat) (o : Oper) : Eff → Prop
  | .val d => ∃ v w', (execOp a.eval o).run c.P w = .ok (.value v) w' ∧ Below w.heap.size w w' ∧ RepV β w' X v d ∧ ∀ b, d.ref = some b → (s.blk b).isSome = true
  | .new b cs d => b = nb ∧ ∃ w1 us e v, (execOp a.eval o).run c.P w = .ok (.value v) (w1.alloc (.cells us e)) ∧ Below w.heap.size w w1 ∧ w1.heap.size = w.heap.size ∧
      cs.length ≤ us.size ∧ Reps w X (us.toList.take cs.length) cs ∧ d.ref = some b ∧
      ∀ β' w' X', β' b = w.heap.size → w'.shape? w.heap.size = some (e, us.size) → RepV β' w' X' v d
  | .store b off ds => ∃ cs us us' e, s.blk b = some cs ∧ w.heap[β b]? = some (.cells us e (0, 0)) ∧ (execOp a.eval o).run c.P w = .ok .skip (w.setRow (β b) us') ∧ us'.size = us.size ∧
      off + ds.length ≤ cs.length ∧ cs.length ≤ us.size ∧ Reps w X (us'.toList.take cs.length) (cs.take off ++ (ds ++ cs.drop (off + ds.length)))
  | .grow b cs d => ∃ v w' β' X', (execOp a.eval o).run c.P w = .ok (.value v) w' ∧ RelB c n ((s.clear b).setBlk b (some cs)) a w' β' X' ∧ RepV β' w' X' v d ∧ d.ref = some b
  | .call f args => ∃ vals : List Value, (execOp a.eval o).run c.P w = .ok (.enter f vals.toArray) w ∧ vals.length = args.length ∧ (∀ i (h : i < vals.length) (h' : i < args.length), RepV β w X vals[i] args[i]) ∧
      ∀ d ∈ args, ∀ b, d.ref = some b → (s.blk b).isSome = true

theorem EffOk.same {nb : Nat} {o : Oper} {v : Value} {d : D} (hrun : (execOp a.eval o).run c.P w = .ok (.value v) w) (hv : RepV β w X v d)
    (hd : ∀ b, d.ref = some b → (s.blk b).isSome = true) : EffOk c n s a w β X nb o (.val d) := ⟨v, w, hrun, Below.refl _ _, hv, hd⟩
theorem EffOk.lit {nb : Nat} {o : Oper} {v : Value} (hrun : (execOp a.eval o).run c.P w = .ok (.value v) w) : EffOk c n s a w β X nb o (.val (.lit v)) :=
  EffOk.same hrun (.p (.lit v)) (fun b hb => by simp [D.ref] at hb)

theorem zeros_run (w : World) (X : Nat → Prop) {P : Program} {t : TypeId} {zs : List D} (e : tyZeros P t = some zs) : ∃ z, (zeroValue t).run P w = .ok z w ∧ Reps w X z.cells.toList zs ∧ zs.length = z.cells.size := by
  unfold tyZeros tyZero at e
  cases hi : P.info? t with
  | none => simp [hi] at e
  | some i =>
    cases hz : i.zero with
    | none => simp [hi, hz] at e
    | some z =>
      simp [hi, hz] at e
      subst e
      exact ⟨z, by simp [zeroValue, typeInfo, hi, hz], reps_ofCell w X _, by simp⟩
theorem repP_ref {v : Value} {d : D} (hv : RepP w X v d) : d.ref = none := by cases hv <;> rfl
theorem rptr_cells {v : Value} {xs : List D} (hv : RepP w X v (.rptr xs)) : ∃ ad us, v = .pointer (some ad) ∧ Reps w X us xs ∧ ∀ i (h : i < us.length), ¬ X ad.block ∧ w.cell? (ad.add i) = some us[i] := by
  cases hv with
  | rptr ad us _ hl hm hr => exact ⟨ad, us, rfl, ⟨hl, hr⟩, hm⟩
theorem ptr_val {v : Value} {b off : Nat} (hv : RepV β w X v (.ptr b off)) : v = .pointer (some ⟨β b, off, none⟩) := by
  cases hv with
  | p hp => cases hp
  | ptr => rfl
theorem slc_val {v : Value} {b off len cap : Nat} (hv : RepV β w X v (.slc b off len cap)) : v = .slice (some ⟨β b, off, none⟩) len cap ∧ len ≤ cap ∧ cap ≤ maxLen := by
  cases hv with
  | p hp => cases hp
  | slc _ _ _ _ h1 h2 => exact ⟨rfl, h1, h2⟩

/-- Loading from cells that read so. -/
theorem load_run {t : TypeId} {sz : Nat} {ag : Bool} {ad : Addr} {us : List Value} {xs : List D} (hs : tySize c.P t = some sz) (ha : tyAgg c.P t = some ag)
    (hr : Reps w X us xs) (hcell : ∀ i (h : i < us.length), w.cell? (ad.add i) = some us[i]) (h0 : 0 < sz) (hle : sz ≤ xs.length) :
    ∃ v, (loadVar t ad).run c.P w = .ok v w ∧ RepP w X v (if ag then .agg (xs.take sz) else xs.headD .any) := by
  unfold tySize at hs
  unfold tyAgg at ha
  cases hi : c.P.info? t with
  | none => rw [hi] at hs; cases hs
  | some i =>
    rw [hi] at hs
    simp only [Option.map_some, Option.some.injEq] at hs
    subst hs
    cases hu : c.P.underlying t with
    | none => rw [hu] at ha; cases ha
    | some d =>
      rw [hu] at ha
      simp only [Option.map_some, Option.some.injEq] at ha
      have hag : (isAgg t).run c.P w = .ok ag w := by
        rw [← ha]
        cases d <;> simp [isAgg, run_underlying hu]
      cases ag with
      | true =>
        have hl : i.size = (us.take i.size).length := by have := hr.1; simp; omega
        have hc : (loadCells ad i.size).run c.P w = .ok (us.take i.size).toArray w := by
          have := run_loadCells_list (P := c.P) w ad (us.take i.size) (fun j v hj => by
            rw [List.getElem?_take] at hj
            split at hj
            · obtain ⟨h1, h2⟩ := List.getElem?_eq_some_iff.1 hj
              rw [hcell j h1, h2]
            · cases hj)
          rw [← hl] at this; exact this
        refine ⟨.agg (us.take i.size).toArray, ?_, RepP.ofReps (hr.take i.size)⟩
        simp [loadVar, hag, Go.sizeOf, typeInfo, hi, hc]
      | false =>
        cases us with
        | nil => have := hr.1; simp at this; omega
        | cons u us =>
          cases xs with
          | nil => have := hr.1; simp at this
          | cons x xs =>
            refine ⟨u, ?_, hr.head⟩
            have := hcell 0 (by simp)
            have h00 : ad.add 0 = ad := by unfold Addr.add; simp
            rw [h00] at this
            simp [loadVar, hag, this]

section ops
variable (h : RelB c n s a w β X) {o : Oper} {nb : Nat}
include h

theorem ok_move {x : Operand} (ho : o.op = .move x ∨ o.op = .assign x) : EffOk c n s a w β X nb o (.val (s.ev x)) := by
  refine .same (v := a.eval x) ?_ (ev_rep h x) (ev_nd h x)
  rcases ho with ho | ho <;> simp [execOp, ho]
theorem ok_pick {k x y : Operand} (ho : o.op = .pick k x y) (b : Bool) (hk : s.ev k = .lit (.bool b)) : EffOk c n s a w β X nb o (.val (if b then s.ev x else s.ev y)) := by
  have hb : a.eval k = .bool b := ev_val h (by rw [hk]; rfl)
  refine .same (v := if b then a.eval x else a.eval y) ?_ (by cases b <;> first | exact ev_rep h y | exact ev_rep h x) (by cases b <;> first | exact ev_nd h y | exact ev_nd h x)
  simp [execOp, ho, hb, asBool]
theorem new_cells (us : Array Value) (e : TypeId) {cs : List D} (hr : Reps w X us.toList cs) :
    RepP (w.alloc (.cells us e)) X (.pointer (some ⟨w.heap.size, 0, none⟩)) (.rptr cs) := by
  have hb : Below w.heap.size w (w.alloc (.cells us e)) := (Below.refl _ _).alloc (Nat.le_refl _) _
  have hr' := hr.mono (stays_below (X := X) hb)
  refine .rptr _ us.toList cs hr'.1 (fun i hi => ⟨fun hx => ?_, ?_⟩) hr'.2
  · exact absurd (h.Xlt _ hx) (by simp)
  · rw [Addr.lit_add, Nat.zero_add, cell_of_row _ _ _ us e (0, 0) (heap_alloc_new w _)]
    simp
theorem ok_alloc {elem : TypeId} {ro : Bool} {zs : List D} (ho : o.op = .alloc elem) (hz : tyZeros c.P elem = some zs) :
    EffOk c n s a w β X nb o (if ro then .val (.rptr zs) else .new nb zs (.ptr nb 0)) := by
  obtain ⟨z, hrun, hr, hzl⟩ := zeros_run w X hz
  have hx : (execOp a.eval o).run c.P w = .ok (.value (.pointer (some ⟨w.heap.size, 0, none⟩))) (w.alloc (.cells z.cells elem)) := by
    simp [execOp, ho, Instr.alloc, hrun, newVar, newRow]
  cases ro with
  | true => exact ⟨_, _, hx, (Below.refl _ _).alloc (Nat.le_refl _) _, .p (new_cells h _ _ hr), fun b hb => by simp [D.ref] at hb⟩
  | false => exact ⟨rfl, w, _, _, _, hx, Below.refl _ _, rfl, by omega, hr.takeAll, rfl, fun β' w' X' hβ _ => by rw [← hβ]; exact .ptr nb 0⟩
theorem ok_box {elem : TypeId} {x : Operand} {ro : Bool} {cs : List D} (ho : o.op = .box elem x) (hc : (s.ev x).cells = some cs) :
    EffOk c n s a w β X nb o (if ro then .val (.rptr cs) else .new nb cs (.ptr nb 0)) := by
  have hr := ev_cells h hc
  have hx : (execOp a.eval o).run c.P w = .ok (.value (.pointer (some ⟨w.heap.size, 0, none⟩))) (w.alloc (.cells (a.eval x).cells elem)) := by
    simp [execOp, ho, Instr.box, newVar, newRow]
  cases ro with
  | true => exact ⟨_, _, hx, (Below.refl _ _).alloc (Nat.le_refl _) _, .p (new_cells h _ _ hr), fun b hb => by simp [D.ref] at hb⟩
  | false => exact ⟨rfl, w, _, _, _, hx, Below.refl _ _, rfl, by have := hr.1; rw [Array.length_toList] at this; omega, hr.takeAll, rfl, fun β' w' X' hβ _ => by rw [← hβ]; exact .ptr nb 0⟩
theorem fill_rep (place : Nat → Option (Nat × Nat)) : ∀ (parts : List (Nat × Operand)) (us : Array Value) (cs cs' : List D), Reps w X us.toList cs →
    fillD place cs (parts.map fun p => (p.1, s.ev p.2)) = some cs' →
    ∃ us', Instr.fill place us (parts.map fun p => (p.1, a.eval p.2)) = some us' ∧ Reps w X us'.toList cs'
  | [], us, cs, cs', hr, e => by
    simp only [List.map_nil, fillD, Option.some.injEq] at e
    subst e
    exact ⟨us, by simp [Instr.fill], hr⟩
  | (i, x) :: rest, us, cs, cs', hr, e => by
    simp only [List.map_cons, fillD] at e
    split at e
    · rename_i off size ds e1 e2
      split at e
      · rename_i hc
        simp only [Bool.and_eq_true, beq_iff_eq, Nat.ble_eq] at hc
        have hd := ev_cells h e2
        have hsz : (a.eval x).cells.size = size := by have := hd.1; rw [Array.length_toList] at this; omega
        have hus : us.size = cs.length := by simpa using hr.1
        obtain ⟨f1, f2⟩ := Great.foldl_set off (a.eval x).cells.toList 0 us
        have hz : (a.eval x).cells.zipIdx.toList = (a.eval x).cells.toList.zipIdx 0 := by rw [Array.toList_zipIdx]
        generalize hU : ((a.eval x).cells.toList.zipIdx 0).foldl (fun cs (x : Value × Nat) => cs.setIfInBounds (off + x.2) x.1) us = U at f1 f2
        have hnew : U.toList = us.toList.take off ++ ((a.eval x).cells.toList ++ us.toList.drop (off + size)) := by
          apply List.ext_getElem?
          intro k
          rw [Array.getElem?_toList, f2 k]
          simp only [Nat.add_zero, Array.length_toList, hsz]
          by_cases k1 : k < off
          · rw [if_neg (by omega), List.getElem?_append_left (by simp; omega), List.getElem?_take, if_pos k1, Array.getElem?_toList]
          · by_cases k2 : k < off + size
            · rw [if_pos ⟨by omega, k2, by omega⟩, List.getElem?_append_right (by simp; omega), List.getElem?_append_left (by simp; omega)]
              congr 1; simp; omega
            · rw [if_neg (by omega), List.getElem?_append_right (by simp; omega), List.getElem?_append_right (by simp; omega), List.getElem?_drop, Array.getElem?_toList]
              congr 1; simp; omega
        have hr2 : Reps w X U.toList (cs.take off ++ (ds ++ cs.drop (off + size))) := by
          rw [hnew]; exact (hr.take off).append (hd.append (hr.drop (off + size)))
        obtain ⟨us', g1, g2⟩ := fill_rep place rest U _ cs' hr2 e
        refine ⟨us', ?_, g2⟩
        simp only [List.map_cons, Instr.fill, e1]
        rw [if_neg (by simp [hsz]; omega)]
        have : (a.eval x).cells.zipIdx.foldl (fun cs (x : Value × Nat) => cs.setIfInBounds (off + x.2) x.1) us = U := by
          rw [← Array.foldl_toList, hz]; exact hU
        simp only [this]; exact g1
      · cases e
    · cases e
theorem ok_build {t : TypeId} {parts : Array (Nat × Operand)} {cs : List D} (ho : o.op = .build t parts)
    (e : buildD c.P t (parts.toList.map fun p => (p.1, s.ev p.2)) = some cs) : EffOk c n s a w β X nb o (.val (.agg cs)) := by
  have key : ∀ us', (Instr.build t (parts.map fun p => (p.1, a.eval p.2))).run c.P w = .ok (.agg us') w → Reps w X us'.toList cs → EffOk c n s a w β X nb o (.val (.agg cs)) := by
    intro us' hrun hr
    refine .same (v := .agg us') ?_ (.p ?_) (fun b hb => by simp [D.ref] at hb)
    · simp [execOp, ho, hrun]
    · have := RepP.ofReps hr; simpa using this
  have key2 : ∀ us', c.P.built t ((parts.map fun p => (p.1, a.eval p.2)).toList) = some us' → Reps w X us'.toList cs → EffOk c n s a w β X nb o (.val (.agg cs)) :=
    fun us' hb hr => key us' (run_build w t _ us' hb) hr
  unfold buildD at e
  split at e
  · rename_i it n e' e1 e2
    split at e
    · rename_i z ie e3 e4
      obtain ⟨us', hf, hr'⟩ := fill_rep h _ parts.toList z.cells _ cs (reps_ofCell w X _) e
      exact key2 us' (by simp only [Program.built, e1, e2, e3, e4, Array.toList_map]; exact hf) hr'
    · cases e
  · rename_i it fields e1 e2
    split at e
    · rename_i z places e3 e4
      obtain ⟨us', hf, hr'⟩ := fill_rep h _ parts.toList z.cells _ cs (reps_ofCell w X _) e
      exact key2 us' (by simp only [Program.built, e1, e2, e3, e4, Array.toList_map]; exact hf) hr'
    · cases e
  · cases e

theorem ok_buildSlice {t : TypeId} {len : Nat} {parts : Array (Nat × Operand)} {cs : List D} (ho : o.op = .buildSlice t len parts)
    (e : buildSliceD c.P t len (parts.toList.map fun p => (p.1, s.ev p.2)) = some cs) : EffOk c n s a w β X nb o (.val (.row len true cs)) := by
  unfold buildSliceD at e
  split at e
  · rename_i el e1
    split at e
    · rename_i k zs e2 e3
      split at e
      · rename_i hc
        simp only [Bool.and_eq_true, beq_iff_eq, Nat.ble_eq, Nat.blt_eq] at hc
        unfold tySize at e2
        unfold tyZeros tyZero at e3
        cases hi : c.P.info? el with
        | none => rw [hi] at e2; cases e2
        | some ie =>
          rw [hi] at e2 e3
          simp only [Option.map_some, Option.some.injEq, Option.bind_some] at e2 e3
          cases hz : ie.zero with
          | none => rw [hz] at e3; cases e3
          | some z =>
            rw [hz] at e3
            simp only [Option.map_some, Option.some.injEq] at e3
            subst e2
            have hlen : zs.length = z.cells.size := by rw [← e3]; simp
            have hzr : Reps w X ((Array.range (len * ie.size)).map (z.cells[· % z.cells.size]!)).toList (rowZeros zs (len * ie.size)) := by
              refine ⟨by simp [rowZeros], fun i h1 h2 => ?_⟩
              have hlt : i % z.cells.size < z.cells.size := Nat.mod_lt _ (by omega)
              have hx := (reps_ofCell w X z.cells.toList).2 (i % z.cells.size) (by simpa using hlt) (by simpa using hlt)
              simp only [Array.toList_map, List.getElem_map, Array.toList_range, List.getElem_range, rowZeros, ← e3]
              rw [List.getD_eq_getElem?_getD, List.getElem?_eq_getElem (by simpa using hlt), Option.getD_some, getElem!_pos z.cells _ hlt]
              simpa using hx
            obtain ⟨us', hf, hr'⟩ := fill_rep h (fun i => some (i * ie.size, ie.size)) parts.toList _ _ cs hzr e
            have hf' : Instr.fill (fun i => some (i * ie.size, ie.size)) ((Array.range (len * ie.size)).map (z.cells[· % z.cells.size]!)) ((parts.map fun p => (p.1, a.eval p.2)).toList) = some us' := by
              rw [Array.toList_map]; exact hf
            have hrun : (Instr.buildSlice t len (parts.map fun p => (p.1, a.eval p.2))).run c.P w = .ok (.slice (some ⟨w.heap.size, 0, none⟩) len len) (w.alloc (.cells us' el)) := by
              by_cases h0 : len * ie.size = 0
              · have hl0 : len = 0 := by
                  rcases Nat.mul_eq_zero.1 h0 with h1 | h1
                  · exact h1
                  · omega
                subst hl0
                have hus : (Array.range (0 * ie.size)).map (z.cells[· % z.cells.size]!) = (#[] : Array Value) := by rw [h0]; simp
                rw [hus, Array.toList_map] at hf'
                have hz0 : Array.map (fun _ => (default : Value)) (Array.range 0) = #[] := by apply Array.eq_empty_of_size_eq_zero; simp
                simp only [Instr.buildSlice, Sem.run_bind, run_underlying e1, Result.andThen_ok, Go.sizeOf, typeInfo, program, Sem.run, hi, Sem.run_pure, Nat.zero_mul]
                simp [hz0, hf', newRow]
              · exact run_buildSlice w t el len _ us' ie z e1 hi hz (by omega) h0 hf'
            have hb : Below w.heap.size w (w.alloc (.cells us' el)) := (Below.refl _ _).alloc (Nat.le_refl _) _
            have hr2 := hr'.mono (stays_below (X := X) hb)
            have hle : len ≤ maxLen := by
              have : len * 1 ≤ len * ie.size := Nat.mul_le_mul_left _ hc.2
              unfold maxLen; omega
            refine ⟨_, _, ?_, hb, .p (.row (some ⟨w.heap.size, 0, none⟩) len len true us'.toList cs hr2.1 (Nat.le_refl _) hle (fun _ => rfl) (fun i hi => ⟨_, rfl, fun hx => absurd (h.Xlt _ hx) (by simp), ?_⟩) hr2.2), fun b hb => by simp [D.ref] at hb⟩
            · simp [execOp, ho, hrun]
            · rw [Addr.lit_add, Nat.zero_add, cell_of_row _ _ _ us' el (0, 0) (heap_alloc_new w _)]
              simp
      · cases e
    · cases e
  · cases e

/-- The cells behind an own pointer. -/
theorem own_cells {b off : Nat} {cs : List D} (hb : s.blk b = some cs) : ∃ us : List Value, Reps w X us (cs.drop off) ∧
    ∀ i (h : i < us.length), w.cell? ((⟨β b, off, none⟩ : Addr).add i) = some us[i] := by
  obtain ⟨_, _, us, e, hu, _, hr⟩ := h.blk b cs hb
  refine ⟨(us.toList.take cs.length).drop off, hr.drop off, fun i hi => ?_⟩
  rw [Addr.lit_add, cell_of_row w _ _ us e (0, 0) hu]
  simp at hi ⊢
theorem ok_load_rptr {t : TypeId} {x : Operand} {sz : Nat} {ag : Bool} {cs : List D} (ho : o.op = .load t x) (hs : tySize c.P t = some sz) (ha : tyAgg c.P t = some ag)
    (hx : s.ev x = .rptr cs) (h0 : 0 < sz) (hle : sz ≤ cs.length) : EffOk c n s a w β X nb o (.val (if ag then .agg (cs.take sz) else cs.headD .any)) := by
  have hv := ev_rep h x
  rw [hx] at hv
  obtain ⟨ad, us, e1, e2, e3⟩ := rptr_cells (hv.pure rfl)
  obtain ⟨v, hrun, hrep⟩ := load_run hs ha e2 (fun i hi => (e3 i hi).2) h0 hle
  refine .same (v := v) ?_ (.p hrep) (fun b hb => ?_)
  · simp [execOp, ho, Instr.loadAt, Instr.sureAddr, e1, hrun]
  · rw [repP_ref hrep] at hb; cases hb
theorem ok_load_ptr {t : TypeId} {x : Operand} {sz b off : Nat} {ag : Bool} {cs : List D} (ho : o.op = .load t x) (hs : tySize c.P t = some sz) (ha : tyAgg c.P t = some ag)
    (hx : s.ev x = .ptr b off) (hb : s.blk b = some cs) (h0 : 0 < sz) (hle : off + sz ≤ cs.length) :
    EffOk c n s a w β X nb o (.val (if ag then .agg ((cs.drop off).take sz) else (cs.drop off).headD .any)) := by
  have hv := ev_rep h x
  rw [hx] at hv
  obtain ⟨us, e2, e3⟩ := own_cells h (off := off) hb
  obtain ⟨v, hrun, hrep⟩ := load_run hs ha e2 e3 h0 (by simp; omega)
  refine .same (v := v) ?_ (.p hrep) (fun b hb => by rw [repP_ref hrep] at hb; cases hb)
  simp [execOp, ho, Instr.loadAt, Instr.sureAddr, ptr_val hv, hrun]
theorem ok_store {t : TypeId} {x y : Operand} {b off sz : Nat} {ds cs : List D} (ho : o.op = .store t x y) (hs : tySize c.P t = some sz)
    (hx : s.ev x = .ptr b off) (hy : (s.ev y).cells = some ds) (hb : s.blk b = some cs) (hl : ds.length = sz) (hok : ds.all D.cellOk = true) (hle : off + sz ≤ cs.length) :
    EffOk c n s a w β X nb o (.store b off ds) := by
  have hv := ev_rep h x
  rw [hx] at hv
  have hr := ev_cells h hy
  obtain ⟨_, _, us, e, hu, hlu, hcs⟩ := h.blk b cs hb
  have hvl : (a.eval y).cells.toList.length = sz := by rw [hr.1]; exact hl
  have hvs : (a.eval y).cells.size = sz := by simpa using hvl
  have hone : ∀ v ∈ (a.eval y).cells.toList, v.oneCell' = true := by
    intro v hv
    obtain ⟨i, hi, rfl⟩ := List.mem_iff_getElem.1 hv
    have h2 : i < ds.length := by rw [← hr.1]; exact hi
    exact cellOk_one (hr.2 i hi h2) (List.all_eq_true.1 hok _ (List.getElem_mem h2))
  have hst := run_storeCells_at c.P (β b) off e (a.eval y).cells.toList 0 us w hu (by rw [hvl]; omega) hone
  refine ⟨cs, us, (us.toList.take off ++ (a.eval y).cells.toList ++ us.toList.drop (off + sz)).toArray, e, hb, hu, ?_, ?_, by omega, hlu, ?_⟩
  · have hsz : (Go.sizeOf t).run c.P w = .ok sz w := by
      unfold tySize at hs
      cases hi : c.P.info? t with
      | none => rw [hi] at hs; cases hs
      | some i => rw [hi] at hs; simp only [Option.map_some, Option.some.injEq] at hs; subst hs; simp [Go.sizeOf, typeInfo, hi]
    simp only [Nat.add_zero, hvl] at hst
    simp [execOp, ho, Instr.storeAt, Instr.sureAddr, ptr_val hv, storeVar, hsz, hvs, hst]
  · simp only [List.size_toArray, List.length_append, List.length_take, List.length_drop, Array.length_toList, hvs]
    omega
  · have e1 := splice_take us.toList (a.eval y).cells.toList off cs.length (by rw [hvl]; omega) (by simpa using hlu)
    rw [hvl] at e1
    have : (us.toList.take off ++ (a.eval y).cells.toList ++ us.toList.drop (off + sz)).toArray.toList.take cs.length = (us.toList.take off ++ (a.eval y).cells.toList ++ us.toList.drop (off + sz)).take cs.length := by simp
    rw [this, e1, hl]
    exact (hcs.take off).append (hr.append (hcs.drop (off + sz)))
end ops
end Lw
