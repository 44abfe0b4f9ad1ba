/- The abstract data of the framework, what it means in a world, and the relation between an abstract frame and a concrete one. No condition. -/
import Derived.Orders
import Derived.Below
import Derived.Laws.CopyRow
import Derived.Laws.Rows
import Derived.Laws.Tables
import Derived.Laws.Cells
import Derived.Laws.AppendOwn
import Derived.Great.Frames
import GoSem.Dispatch
import Derived.Laws.Entries
import Derived.Great.FillDense
import Derived.Great.BuildSlice
import Derived.Laws.NewFold
import Derived.ChangeKeysEq
import Derived.Laws.MakeOwn
namespace Lw
open Go Go.RowKit

/-- Abstract data. any: nothing is known; lit: this very value; row: a slice whose cells stay as they are; agg: a struct or array by value; tup: a tuple; rptr: a pointer to cells that stay as they are; ptr: a pointer into an own block; slc: a slice over an own block; gsl: a slice at the head of an own block, its capacity not known. -/
inductive D where
  | any
  | lit (v : Value)
  | row (len : Nat) (full : Bool) (xs : List D)
  | agg (xs : List D)
  | tup (xs : List D)
  | rptr (xs : List D)
  | ptr (b off : Nat)
  | slc (b off len cap : Nat)
  | gsl (b n size : Nat)
  deriving Inhabited

/-- What abstract data says of a value in a world; X: the blocks that may still be written, no cell of the data lies in them. -/
inductive RepP (w : World) (X : Nat → Prop) : Value → D → Prop
  | any (v : Value) : RepP w X v .any
  | lit (v : Value) : RepP w X v (.lit v)
  | row (a : Option Addr) (len cap : Nat) (full : Bool) (us : List Value) (xs : List D)
      (hl : us.length = xs.length) (hlen : len ≤ cap) (hcap : cap ≤ maxLen) (hf : full = true → cap = len)
      (hm : ∀ i (h : i < us.length), ∃ a', a = some a' ∧ ¬ X a'.block ∧ w.cell? (a'.add i) = some us[i])
      (hr : ∀ i (h : i < us.length) (h' : i < xs.length), RepP w X us[i] xs[i]) : RepP w X (.slice a len cap) (.row len full xs)
  | rptr (a : Addr) (us : List Value) (xs : List D) (hl : us.length = xs.length)
      (hm : ∀ i (h : i < us.length), ¬ X a.block ∧ w.cell? (a.add i) = some us[i])
      (hr : ∀ i (h : i < us.length) (h' : i < xs.length), RepP w X us[i] xs[i]) : RepP w X (.pointer (some a)) (.rptr xs)
  | agg (us : List Value) (xs : List D) (hl : us.length = xs.length)
      (hr : ∀ i (h : i < us.length) (h' : i < xs.length), RepP w X us[i] xs[i]) : RepP w X (.agg us.toArray) (.agg xs)
  | tup (us : List Value) (xs : List D) (hl : us.length = xs.length)
      (hr : ∀ i (h : i < us.length) (h' : i < xs.length), RepP w X us[i] xs[i]) : RepP w X (.tuple us.toArray) (.tup xs)

theorem RepP.mono {w w' : World} {X X' : Nat → Prop} (h : ∀ a u, w.cell? a = some u → ¬ X a.block → w'.cell? a = some u ∧ ¬ X' a.block)
    {v : Value} {d : D} (hr : RepP w X v d) : RepP w' X' v d := by
  induction hr with
  | any v => exact .any v
  | lit v => exact .lit v
  | row a len cap full us xs hl hlen hcap hf hm _ ih =>
    refine .row a len cap full us xs hl hlen hcap hf (fun i hi => ?_) ih
    obtain ⟨a', ha, hx, hc⟩ := hm i hi
    have hb : (a'.add i).block = a'.block := by unfold Addr.add; split <;> rfl
    have := h (a'.add i) _ hc (by rw [hb]; exact hx)
    exact ⟨a', ha, by rw [hb] at this; exact this.2, this.1⟩
  | rptr a us xs hl hm _ ih =>
    refine .rptr a us xs hl (fun i hi => ?_) ih
    obtain ⟨hx, hc⟩ := hm i hi
    have hb : (a.add i).block = a.block := by unfold Addr.add; split <;> rfl
    have := h (a.add i) _ hc (by rw [hb]; exact hx)
    exact ⟨by rw [hb] at this; exact this.2, this.1⟩
  | agg us xs hl _ ih => exact .agg us xs hl ih
  | tup us xs hl _ ih => exact .tup us xs hl ih

/-- A list of values against a list of abstract data. -/
def Reps (w : World) (X : Nat → Prop) (us : List Value) (xs : List D) : Prop :=
  us.length = xs.length ∧ ∀ i (h : i < us.length) (h' : i < xs.length), RepP w X us[i] xs[i]

theorem Reps.nil {w : World} {X : Nat → Prop} : Reps w X [] [] := ⟨rfl, fun i h => absurd h (by simp)⟩
theorem Reps.cons {w : World} {X : Nat → Prop} {u : Value} {x : D} {us : List Value} {xs : List D} (h : RepP w X u x) (hs : Reps w X us xs) : Reps w X (u :: us) (x :: xs) := by
  refine ⟨by simp [hs.1], fun i h1 h2 => ?_⟩
  cases i with
  | zero => exact h
  | succ i => exact hs.2 i (by simpa using h1) (by simpa using h2)
theorem Reps.head {w : World} {X : Nat → Prop} {u : Value} {x : D} {us : List Value} {xs : List D} (h : Reps w X (u :: us) (x :: xs)) : RepP w X u x := h.2 0 (by simp) (by simp)
theorem Reps.tail {w : World} {X : Nat → Prop} {u : Value} {x : D} {us : List Value} {xs : List D} (h : Reps w X (u :: us) (x :: xs)) : Reps w X us xs :=
  ⟨by simpa using h.1, fun i h1 h2 => by have := h.2 (i + 1) (by simpa using h1) (by simpa using h2); simpa using this⟩
theorem Reps.mono {w w' : World} {X X' : Nat → Prop} (h : ∀ a u, w.cell? a = some u → ¬ X a.block → w'.cell? a = some u ∧ ¬ X' a.block)
    {us : List Value} {xs : List D} (hr : Reps w X us xs) : Reps w' X' us xs := ⟨hr.1, fun i h1 h2 => (hr.2 i h1 h2).mono h⟩
theorem Reps.append {w : World} {X : Nat → Prop} {us us' : List Value} {xs xs' : List D} (h : Reps w X us xs) (h' : Reps w X us' xs') : Reps w X (us ++ us') (xs ++ xs') := by
  refine ⟨by simp [h.1, h'.1], fun i h1 h2 => ?_⟩
  by_cases hi : i < us.length
  · rw [List.getElem_append_left hi, List.getElem_append_left (by rw [← h.1]; exact hi)]; exact h.2 i hi (by rw [← h.1]; exact hi)
  · rw [List.getElem_append_right (by omega), List.getElem_append_right (by rw [← h.1]; omega)]
    have e : i - xs.length = i - us.length := by rw [h.1]
    have h3 : i - us.length < us'.length := by simp at h1; omega
    have := h'.2 (i - us.length) h3 (by rw [← h'.1]; exact h3)
    simp only [e]; exact this
theorem Reps.drop {w : World} {X : Nat → Prop} {us : List Value} {xs : List D} (h : Reps w X us xs) (n : Nat) : Reps w X (us.drop n) (xs.drop n) := by
  refine ⟨by simp [h.1], fun i h1 h2 => ?_⟩
  rw [List.getElem_drop, List.getElem_drop]; exact h.2 _ (by simp at h1; omega) (by simp at h2; omega)
theorem Reps.take {w : World} {X : Nat → Prop} {us : List Value} {xs : List D} (h : Reps w X us xs) (n : Nat) : Reps w X (us.take n) (xs.take n) := by
  refine ⟨by simp [h.1], fun i h1 h2 => ?_⟩
  rw [List.getElem_take, List.getElem_take]; exact h.2 _ (by simp at h1; omega) (by simp at h2; omega)

/-- With the own blocks: β tells where an own block lies. -/
inductive RepV (β : Nat → Nat) (w : World) (X : Nat → Prop) : Value → D → Prop
  | p {v : Value} {d : D} (h : RepP w X v d) : RepV β w X v d
  | ptr (b off : Nat) : RepV β w X (.pointer (some ⟨β b, off, none⟩)) (.ptr b off)
  | slc (b off len cap : Nat) (h1 : len ≤ cap) (h2 : cap ≤ maxLen) : RepV β w X (.slice (some ⟨β b, off, none⟩) len cap) (.slc b off len cap)
  | gsl (b n size cap : Nat) (e : TypeId) (h1 : n ≤ cap) (h2 : cap ≤ maxLen) (h3 : w.shape? (β b) = some (e, cap * size)) : RepV β w X (.slice (some ⟨β b, 0, none⟩) n cap) (.gsl b n size)

/-- No row of cells has changed its type or its size. -/
def Shapes (w w' : World) : Prop := ∀ k sh, w.shape? k = some sh → w'.shape? k = some sh

theorem RepV.mono {β : Nat → Nat} {w w' : World} {X X' : Nat → Prop} (h : ∀ a u, w.cell? a = some u → ¬ X a.block → w'.cell? a = some u ∧ ¬ X' a.block) (hsh : Shapes w w')
    {v : Value} {d : D} (hr : RepV β w X v d) : RepV β w' X' v d := by
  cases hr with
  | p hp => exact .p (hp.mono h)
  | ptr b off => exact .ptr b off
  | slc b off len cap h1 h2 => exact .slc b off len cap h1 h2
  | gsl b n size cap e h1 h2 h3 => exact .gsl b n size cap e h1 h2 (hsh _ _ h3)

/-- The own block that abstract data points into. -/
def D.ref : D → Option Nat
  | .ptr b _ => some b
  | .slc b _ _ _ => some b
  | .gsl b _ _ => some b
  | _ => none
theorem RepV.pure {β : Nat → Nat} {w : World} {X : Nat → Prop} {v : Value} {d : D} (h : RepV β w X v d) (hd : d.ref = none) : RepP w X v d := by
  cases h with
  | p h => exact h
  | ptr => simp [D.ref] at hd
  | slc => simp [D.ref] at hd
  | gsl => simp [D.ref] at hd
/-- Only the place of the block that is pointed into matters. -/
theorem RepV.congr {β β' : Nat → Nat} {w : World} {X : Nat → Prop} {v : Value} {d : D} (h : RepV β w X v d) (hb : ∀ b, d.ref = some b → β' b = β b) : RepV β' w X v d := by
  cases h with
  | p h => exact .p h
  | ptr b off => rw [← hb b rfl]; exact .ptr b off
  | slc b off len cap h1 h2 => rw [← hb b rfl]; exact .slc b off len cap h1 h2
  | gsl b n size cap e h1 h2 h3 => rw [← hb b rfl]; exact .gsl b n size cap e h1 h2 (by rw [hb b rfl]; exact h3)

/-- An abstract frame as functions. -/
structure FSt where
  tmp : Nat → D
  blk : Nat → Option (List D)

structure Ctx where
  P : Program
  Good : World → Prop
  F : Nat → Prop
  w0 : World
  gh : List (Value × D)
  gb : Nat

/-- The relation between an abstract frame and a concrete one, β and X given (gh: what waits outside this frame; it points into own blocks below gb alone). The cells of own blocks hold no pointers into own blocks. -/
structure RelB (c : Ctx) (n : Nat) (s : FSt) (a : Act) (w : World) (β : Nat → Nat) (X : Nat → Prop) : Prop where
  defers : a.defers = []
  size : a.tmps.size = n
  tmp : ∀ t, RepV β w X (a.tmps.getD t undef) (s.tmp t)
  nd : ∀ t b, (s.tmp t).ref = some b → (s.blk b).isSome = true
  blk : ∀ b cs, s.blk b = some cs → c.w0.heap.size ≤ β b ∧ X (β b) ∧ ∃ us e, w.heap[β b]? = some (.cells us e (0, 0)) ∧ cs.length ≤ us.size ∧ Reps w X (us.toList.take cs.length) cs
  inj : ∀ b b', (s.blk b).isSome = true → (s.blk b').isSome = true → β b = β b' → b = b'
  F : ∀ k, c.F k → X k
  Flt : ∀ k, c.F k → k < c.w0.heap.size
  Xlt : ∀ k, X k → k < w.heap.size
  below : Below c.w0.heap.size c.w0 w
  gh : ∀ p ∈ c.gh, RepV β w X p.1 p.2
  ghnd : ∀ p ∈ c.gh, ∀ b, p.2.ref = some b → b < c.gb ∧ (s.blk b).isSome = true

def Rel (c : Ctx) (n : Nat) (s : FSt) (a : Act) (w : World) : Prop := ∃ β X, RelB c n s a w β X

/-- What is asked of 'Good': it stays where no block that was there is written. -/
def Steady (Good : World → Prop) : Prop := ∀ w w', Below w.heap.size w w' → Good w → Good w'

/-- Called with arguments that read so, the function returns what reads so; nothing that was there is written; what it returns avoids whatever the arguments avoid. -/
def Spec (P : Program) (Good : World → Prop) (f : FuncId) (args : List D) (r : D) : Prop :=
  ∀ (w : World) (F : Nat → Prop) (vals : List Value), Good w → Reps w F vals args → (∀ k, F k → k < w.heap.size) →
    Calls P f vals.toArray w fun e w' => ∃ v, e = .returned v ∧ RepP w' F v r ∧ Below w.heap.size w w' ∧ Good w'

/-- The same where what comes back is a slice over all of a new row of cells that nobody else knows. -/
def SpecN (P : Program) (Good : World → Prop) (f : FuncId) (args : List D) (n : Nat) (cs : List D) : Prop :=
  ∀ (w : World) (F : Nat → Prop) (vals : List Value), Good w → Reps w F vals args → (∀ k, F k → k < w.heap.size) →
    Calls P f vals.toArray w fun e w' => ∃ k us ty, e = .returned (.slice (some ⟨k, 0, none⟩) n n) ∧ n ≤ maxLen ∧ w.heap.size ≤ k ∧ w'.heap[k]? = some (.cells us ty (0, 0)) ∧ cs.length ≤ us.size ∧
      Reps w' (fun j => F j ∨ j = k) (us.toList.take cs.length) cs ∧ Below w.heap.size w w' ∧ Good w'

theorem Addr.block_add (a : Addr) (n : Nat) : (a.add n).block = a.block := by unfold Addr.add; split <;> rfl
theorem Addr.add_add (a : Addr) (m n : Nat) : (a.add m).add n = a.add (m + n) := by
  unfold Addr.add
  by_cases hm : m = 0
  · subst hm; simp
  · by_cases hn : n = 0
    · subst hn; simp [hm]
    · simp [hm, hn]; omega
theorem Addr.lit_add (b o n : Nat) : (⟨b, o, none⟩ : Addr).add n = ⟨b, o + n, none⟩ := by
  unfold Addr.add; split <;> simp_all

theorem cell_lt {w : World} {a : Addr} {u : Value} (h : w.cell? a = some u) : a.block < w.heap.size := World.block_lt_of_cell? w a h

/-- Below the heap's size all cells stay. -/
theorem stays_below {w w' : World} {X : Nat → Prop} (hb : Below w.heap.size w w') :
    ∀ a u, w.cell? a = some u → ¬ X a.block → w'.cell? a = some u ∧ ¬ X a.block := fun a u h hx => by
  have := hb.cell (p := a) (cell_lt h)
  exact ⟨by rw [this]; exact h, hx⟩
theorem stays_below_new {w w' : World} {X : Nat → Prop} (hb : Below w.heap.size w w') {k : Nat} (hk : w.heap.size ≤ k) :
    ∀ a u, w.cell? a = some u → ¬ X a.block → w'.cell? a = some u ∧ ¬ (X a.block ∨ a.block = k) := fun a u h hx => by
  have h2 := cell_lt h
  refine ⟨(stays_below (X := X) hb a u h hx).1, ?_⟩
  rintro (h1 | h1)
  · exact hx h1
  · omega

theorem RelB.good {c : Ctx} {n : Nat} {s : FSt} {a : Act} {w : World} {β : Nat → Nat} {X : Nat → Prop} (h : RelB c n s a w β X) (hG : Steady c.Good) (h0 : c.Good c.w0) : c.Good w := hG _ _ h.below h0

theorem shape_of_cells {w : World} {k : Nat} {us : Array Value} {e : TypeId} {fr : Nat × Nat} (h : w.heap[k]? = some (.cells us e fr)) : w.shape? k = some (e, us.size) := by
  simp [World.shape?, h]
theorem cells_of_shape {w : World} {k : Nat} {e : TypeId} {m : Nat} (h : w.shape? k = some (e, m)) : ∃ us fr, w.heap[k]? = some (.cells us e fr) ∧ us.size = m := by
  unfold World.shape? at h
  split at h
  · rename_i us e' fr hk
    simp only [Option.some.injEq, Prod.mk.injEq] at h
    obtain ⟨rfl, rfl⟩ := h
    exact ⟨us, fr, hk, rfl⟩
  · cases h
theorem shapes_below {w w' : World} (hb : Below w.heap.size w w') : Shapes w w' := fun k sh h => by
  obtain ⟨e, m⟩ := sh
  obtain ⟨us, fr, hk, rfl⟩ := cells_of_shape h
  have := hb.block k (Array.getElem?_eq_some_iff.1 hk).1
  rw [hk] at this
  exact shape_of_cells this
theorem shapes_setRow {w : World} {g : Nat} {us us' : Array Value} {e : TypeId} (hu : w.heap[g]? = some (.cells us e (0, 0))) (hs : us'.size = us.size) : Shapes w (w.setRow g us') := fun k sh h => by
  obtain ⟨e', m⟩ := sh
  obtain ⟨us2, fr, hk, rfl⟩ := cells_of_shape h
  by_cases hkg : k = g
  · subst hkg
    rw [hu] at hk
    cases hk
    have := setRow_heap w k us us' e (0, 0) hu
    rw [shape_of_cells this, hs]
  · have := setRow_other w g k us' hkg
    rw [hk] at this
    exact shape_of_cells this

/-- A step of the world that leaves all that was there: the relation stays. -/
theorem RelB.grow {c : Ctx} {n : Nat} {s : FSt} {a : Act} {w w' : World} {β : Nat → Nat} {X : Nat → Prop} (h : RelB c n s a w β X)
    (hb : Below w.heap.size w w') : RelB c n s a w' β X where
  defers := h.defers
  size := h.size
  tmp := fun t => (h.tmp t).mono (stays_below hb) (shapes_below hb)
  nd := h.nd
  blk := fun b cs hs => by
    obtain ⟨h1, h2, us, e, h3, h4, h5⟩ := h.blk b cs hs
    refine ⟨h1, h2, us, e, ?_, h4, h5.mono (stays_below hb)⟩
    rw [hb.block (β b) (Array.getElem?_eq_some_iff.1 h3).1]; exact h3
  inj := h.inj
  F := h.F
  Flt := h.Flt
  Xlt := fun k hk => Nat.lt_of_lt_of_le (h.Xlt k hk) hb.size
  below := h.below.trans (hb.mono h.below.size)
  gh := fun p hp => (h.gh p hp).mono (stays_below hb) (shapes_below hb)
  ghnd := h.ghnd

theorem put_getD_same {a : Act} {k : Nat} {v : Value} (h : k < a.tmps.size) : (a.put (some k) v).tmps.getD k undef = v := by
  have := Act.eval_put_same a k v h
  simpa [Act.eval] using this
theorem put_getD_out {a : Act} {k : Nat} {v : Value} (h : ¬ k < a.tmps.size) : (a.put (some k) v) = a := by
  cases a; simp [Act.put, Array.setIfInBounds, h]
theorem put_getD_ne {a : Act} {k t : Nat} {v : Value} (h : k ≠ t) : (a.put (some k) v).tmps.getD t undef = a.tmps.getD t undef := by
  have := Act.eval_put_ne a k t v h
  simpa [Act.eval] using this

/-- The frame behind a put. -/
def FSt.put (s : FSt) (n : Nat) (dst : Option Tmp) (d : D) : FSt where
  tmp := fun t => if dst = some t ∧ t < n then d else s.tmp t
  blk := s.blk

/-- A temporary gets a value. -/
theorem RelB.put {c : Ctx} {n : Nat} {s : FSt} {a : Act} {w : World} {β : Nat → Nat} {X : Nat → Prop} (h : RelB c n s a w β X)
    {dst : Option Tmp} {v : Value} {d : D} (hv : RepV β w X v d) (hd : ∀ b, d.ref = some b → (s.blk b).isSome = true) :
    RelB c n (s.put n dst d) (a.put dst v) w β X where
  defers := by rw [Act.defers_put']; exact h.defers
  size := by rw [Act.size_put]; exact h.size
  tmp := fun t => by
    show RepV β w X _ (if dst = some t ∧ t < n then d else s.tmp t)
    cases dst with
    | none => rw [if_neg (by simp)]; exact h.tmp t
    | some k =>
      by_cases hk : k = t
      · subst hk
        by_cases hn : k < n
        · rw [if_pos ⟨rfl, hn⟩, put_getD_same (by rw [h.size]; exact hn)]; exact hv
        · rw [if_neg (by rintro ⟨_, h2⟩; exact hn h2), put_getD_out (by rw [h.size]; exact hn)]; exact h.tmp k
      · rw [if_neg (by rintro ⟨h1, _⟩; exact hk (Option.some.inj h1)), put_getD_ne hk]; exact h.tmp t
  nd := fun t b ht => by
    have ht' : (if dst = some t ∧ t < n then d else s.tmp t).ref = some b := ht
    by_cases hc : dst = some t ∧ t < n
    · rw [if_pos hc] at ht'; exact hd b ht'
    · rw [if_neg hc] at ht'; exact h.nd t b ht'
  blk := h.blk
  inj := h.inj
  F := h.F
  Flt := h.Flt
  Xlt := h.Xlt
  below := h.below
  gh := h.gh
  ghnd := h.ghnd

/-- Less is known; no block that is looked at from outside is forgotten. -/
theorem Rel.weaken {c : Ctx} {n : Nat} {s s' : FSt} {a : Act} {w : World} (h : Rel c n s a w)
    (ht : ∀ t, s'.tmp t = .any ∨ s'.tmp t = s.tmp t) (hb : ∀ b, s'.blk b = none ∨ s'.blk b = s.blk b)
    (hnd : ∀ t b, (s'.tmp t).ref = some b → (s'.blk b).isSome = true) (hgb : ∀ b, b < c.gb → s'.blk b = s.blk b) : Rel c n s' a w := by
  obtain ⟨β, X, h⟩ := h
  refine ⟨β, X, h.defers, h.size, fun t => ?_, hnd, fun b cs hs => ?_, fun b b' h1 h2 => ?_, h.F, h.Flt, h.Xlt, h.below, h.gh, fun p hp b hpb => ?_⟩
  · rcases ht t with e | e
    · rw [e]; exact .p (.any _)
    · rw [e]; exact h.tmp t
  · rcases hb b with e | e
    · rw [e] at hs; cases hs
    · exact h.blk b cs (by rw [← e]; exact hs)
  · refine h.inj b b' ?_ ?_
    · rcases hb b with e | e
      · rw [e] at h1; simp at h1
      · rw [← e]; exact h1
    · rcases hb b' with e | e
      · rw [e] at h2; simp at h2
      · rw [← e]; exact h2
  · obtain ⟨h1, h2⟩ := h.ghnd p hp b hpb
    exact ⟨h1, by rw [hgb b h1]; exact h2⟩

/-- The frame behind a new own block. -/
def FSt.setBlk (s : FSt) (b : Nat) (cs : Option (List D)) : FSt where
  tmp := s.tmp
  blk := fun k => if k = b then cs else s.blk k

/-- A new own block: number b, which was free. -/
theorem RelB.new {c : Ctx} {n : Nat} {s : FSt} {a : Act} {w : World} {β : Nat → Nat} {X : Nat → Prop} (h : RelB c n s a w β X)
    (b : Nat) (hfree : s.blk b = none) (e : TypeId) (us : Array Value) (cs : List D) (hle : cs.length ≤ us.size) (hr : Reps w X (us.toList.take cs.length) cs) :
    RelB c n (s.setBlk b (some cs)) a (w.alloc (.cells us e)) (fun k => if k = b then w.heap.size else β k) (fun k => X k ∨ k = w.heap.size) := by
  have hbel : Below w.heap.size w (w.alloc (.cells us e)) := (Below.refl _ _).alloc (Nat.le_refl _) _
  have hst := stays_below_new (X := X) hbel (Nat.le_refl w.heap.size)
  have hsh := shapes_below hbel
  have hnew : (w.alloc (.cells us e)).heap[w.heap.size]? = some (.cells us e (0, 0)) := heap_alloc_new w _
  have lt : ∀ j, (s.blk j).isSome = true → β j < w.heap.size := fun j hj => by
    obtain ⟨cs', hc⟩ := Option.isSome_iff_exists.1 hj
    exact h.Xlt _ (h.blk j cs' hc).2.1
  have hliv : ∀ b', (s.blk b').isSome = true → b' ≠ b := fun b' hb' e => by rw [e, hfree] at hb'; simp at hb'
  have hsome : ∀ b', (s.blk b').isSome = true → ((s.setBlk b (some cs)).blk b').isSome = true := fun b' hb' => by
    show (if b' = b then some cs else s.blk b').isSome = true
    split
    · rfl
    · exact hb'
  refine ⟨h.defers, h.size, fun t => ?_, fun t b' ht => hsome b' (h.nd t b' ht), fun k cs' hk => ?_, fun k k' hk hk' he => ?_, fun k hk => .inl (h.F k hk), h.Flt, fun k hk => ?_, h.below.trans (hbel.mono h.below.size), fun p hp => ?_, fun p hp b' hb' => ?_⟩
  · refine ((h.tmp t).mono hst hsh).congr fun b' hb' => ?_
    rw [if_neg (hliv b' (h.nd t b' hb'))]
  · have hk' : (if k = b then some cs else s.blk k) = some cs' := hk
    by_cases hkb : k = b
    · rw [if_pos hkb] at hk'
      obtain rfl := Option.some.inj hk'
      simp only [hkb, if_true]
      exact ⟨h.below.size, .inr trivial, us, e, hnew, hle, hr.mono hst⟩
    · rw [if_neg hkb] at hk'
      obtain ⟨h1, h2, us', e', h3, h4, h5⟩ := h.blk k cs' hk'
      simp only [if_neg hkb]
      refine ⟨h1, .inl h2, us', e', ?_, h4, h5.mono hst⟩
      rw [hbel.block (β k) (Array.getElem?_eq_some_iff.1 h3).1]; exact h3
  · have hk1 : (if k = b then some cs else s.blk k).isSome = true := hk
    have hk2 : (if k' = b then some cs else s.blk k').isSome = true := hk'
    by_cases h1 : k = b <;> by_cases h2 : k' = b
    · rw [h1, h2]
    · rw [if_neg h2] at hk2
      simp only [if_pos h1, if_neg h2] at he
      have := lt k' hk2; omega
    · rw [if_neg h1] at hk1
      simp only [if_neg h1, if_pos h2] at he
      have := lt k hk1; omega
    · rw [if_neg h1] at hk1
      rw [if_neg h2] at hk2
      simp only [if_neg h1, if_neg h2] at he
      exact h.inj k k' hk1 hk2 he
  · have hs : (w.alloc (.cells us e)).heap.size = w.heap.size + 1 := by simp
    rcases hk with hk | hk
    · have := h.Xlt k hk; omega
    · omega
  · refine ((h.gh p hp).mono hst hsh).congr fun b' hb' => ?_
    rw [if_neg (hliv b' (h.ghnd p hp b' hb').2)]
  · obtain ⟨h1, h2⟩ := h.ghnd p hp b' hb'
    exact ⟨h1, hsome b' h2⟩

/-- A block that somebody else has made becomes an own block: number b, which was free. -/
theorem RelB.adopt {c : Ctx} {n : Nat} {s : FSt} {a : Act} {w w' : World} {β : Nat → Nat} {X : Nat → Prop} (h : RelB c n s a w β X) (hbel : Below w.heap.size w w')
    (b : Nat) (hfree : s.blk b = none) {k0 : Nat} {e : TypeId} {us : Array Value} {cs : List D} (hk0 : w.heap.size ≤ k0) (hu : w'.heap[k0]? = some (.cells us e (0, 0))) (hle : cs.length ≤ us.size)
    (hr : Reps w' (fun k => X k ∨ k = k0) (us.toList.take cs.length) cs) :
    RelB c n (s.setBlk b (some cs)) a w' (fun k => if k = b then k0 else β k) (fun k => X k ∨ k = k0) := by
  have hst := stays_below_new (X := X) hbel hk0
  have hsh := shapes_below hbel
  have lt : ∀ j, (s.blk j).isSome = true → β j < w.heap.size := fun j hj => by
    obtain ⟨cs', hc⟩ := Option.isSome_iff_exists.1 hj
    exact h.Xlt _ (h.blk j cs' hc).2.1
  have hliv : ∀ b', (s.blk b').isSome = true → b' ≠ b := fun b' hb' e => by rw [e, hfree] at hb'; simp at hb'
  have hsome : ∀ b', (s.blk b').isSome = true → ((s.setBlk b (some cs)).blk b').isSome = true := fun b' hb' => by
    show (if b' = b then some cs else s.blk b').isSome = true
    split
    · rfl
    · exact hb'
  refine ⟨h.defers, h.size, fun t => ?_, fun t b' ht => hsome b' (h.nd t b' ht), fun k cs' hk => ?_, fun k k' hk hk' he => ?_, fun k hk => .inl (h.F k hk), h.Flt, fun k hk => ?_, h.below.trans (hbel.mono h.below.size), fun p hp => ?_, fun p hp b' hb' => ?_⟩
  · refine ((h.tmp t).mono hst hsh).congr fun b' hb' => ?_
    rw [if_neg (hliv b' (h.nd t b' hb'))]
  · have hk' : (if k = b then some cs else s.blk k) = some cs' := hk
    by_cases hkb : k = b
    · rw [if_pos hkb] at hk'
      obtain rfl := Option.some.inj hk'
      simp only [hkb, if_true]
      exact ⟨Nat.le_trans h.below.size hk0, .inr trivial, us, e, hu, hle, hr⟩
    · rw [if_neg hkb] at hk'
      obtain ⟨h1, h2, us', e', h3, h4, h5⟩ := h.blk k cs' hk'
      simp only [if_neg hkb]
      refine ⟨h1, .inl h2, us', e', ?_, h4, h5.mono hst⟩
      rw [hbel.block (β k) (Array.getElem?_eq_some_iff.1 h3).1]; exact h3
  · have hk1 : (if k = b then some cs else s.blk k).isSome = true := hk
    have hk2 : (if k' = b then some cs else s.blk k').isSome = true := hk'
    by_cases h1 : k = b <;> by_cases h2 : k' = b
    · rw [h1, h2]
    · rw [if_neg h2] at hk2
      simp only [if_pos h1, if_neg h2] at he
      have := lt k' hk2; omega
    · rw [if_neg h1] at hk1
      simp only [if_neg h1, if_pos h2] at he
      have := lt k hk1; omega
    · rw [if_neg h1] at hk1
      rw [if_neg h2] at hk2
      simp only [if_neg h1, if_neg h2] at he
      exact h.inj k k' hk1 hk2 he
  · have hs := (Array.getElem?_eq_some_iff.1 hu).1
    have := hbel.size
    rcases hk with hk | hk
    · have := h.Xlt k hk; omega
    · omega
  · refine ((h.gh p hp).mono hst hsh).congr fun b' hb' => ?_
    rw [if_neg (hliv b' (h.ghnd p hp b' hb').2)]
  · obtain ⟨h1, h2⟩ := h.ghnd p hp b' hb'
    exact ⟨h1, hsome b' h2⟩

/-- A store into an own block. -/
theorem RelB.store {c : Ctx} {n : Nat} {s : FSt} {a : Act} {w : World} {β : Nat → Nat} {X : Nat → Prop} (h : RelB c n s a w β X)
    (b : Nat) (cs cs' : List D) (hb : s.blk b = some cs) (us us' : Array Value) (e : TypeId) (hu : w.heap[β b]? = some (.cells us e (0, 0))) (hsz : us'.size = us.size)
    (hle : cs'.length ≤ us'.size) (hr : Reps w X (us'.toList.take cs'.length) cs') :
    RelB c n (s.setBlk b (some cs')) a (w.setRow (β b) us') β X := by
  obtain ⟨h1, h2, us0, e0, h3, h4⟩ := h.blk b cs hb
  have hst : ∀ a u, w.cell? a = some u → ¬ X a.block → (w.setRow (β b) us').cell? a = some u ∧ ¬ X a.block := fun a u ha hx =>
    ⟨by rw [cell_setRow_other w (β b) us' a (fun e => hx (by rw [e]; exact h2))]; exact ha, hx⟩
  have hsh := shapes_setRow hu hsz
  have hbel : Below c.w0.heap.size w (w.setRow (β b) us') := ⟨rfl, rfl, rfl, by simp, fun k hk => setRow_other w (β b) k us' (by omega)⟩
  have hsome : ∀ b', (s.blk b').isSome = true → ((s.setBlk b (some cs')).blk b').isSome = true := fun b' hb' => by
    show (if b' = b then some cs' else s.blk b').isSome = true
    split
    · rfl
    · exact hb'
  have hback : ∀ b', ((s.setBlk b (some cs')).blk b').isSome = true → (s.blk b').isSome = true := fun b' hb' => by
    have hk1 : (if b' = b then some cs' else s.blk b').isSome = true := hb'
    by_cases h1 : b' = b
    · rw [h1, hb]; rfl
    · rw [if_neg h1] at hk1; exact hk1
  refine ⟨h.defers, h.size, fun t => (h.tmp t).mono hst hsh, fun t b' ht => hsome b' (h.nd t b' ht), fun k cs'' hk => ?_, fun k k' hk hk' he => h.inj k k' (hback k hk) (hback k' hk') he, h.F, h.Flt, fun k hk => by simpa using h.Xlt k hk,
    h.below.trans hbel, fun p hp => (h.gh p hp).mono hst hsh, fun p hp b' hb' => ⟨(h.ghnd p hp b' hb').1, hsome b' (h.ghnd p hp b' hb').2⟩⟩
  have hk' : (if k = b then some cs' else s.blk k) = some cs'' := hk
  by_cases hkb : k = b
  · rw [if_pos hkb] at hk'
    obtain rfl := Option.some.inj hk'
    subst hkb
    exact ⟨h1, h2, us', e, setRow_heap w (β k) us us' e (0, 0) hu, hle, hr.mono hst⟩
  · rw [if_neg hkb] at hk'
    obtain ⟨k1, k2, us2, e2, k3, k4, k5⟩ := h.blk k cs'' hk'
    have hne : β k ≠ β b := fun e => hkb (h.inj k b (by rw [hk']; rfl) (by rw [hb]; rfl) e)
    exact ⟨k1, k2, us2, e2, by rw [setRow_other w (β b) (β k) us' hne]; exact k3, k4, k5.mono hst⟩

/-- Whoever points into block b is forgotten. -/
def FSt.clear (s : FSt) (b : Nat) : FSt where
  tmp := fun t => if (s.tmp t).ref = some b then .any else s.tmp t
  blk := s.blk
theorem RelB.clear {c : Ctx} {n : Nat} {s : FSt} {a : Act} {w : World} {β : Nat → Nat} {X : Nat → Prop} (h : RelB c n s a w β X) (b : Nat) : RelB c n (s.clear b) a w β X where
  defers := h.defers
  size := h.size
  tmp := fun t => by
    show RepV β w X _ (if (s.tmp t).ref = some b then .any else s.tmp t)
    split
    · exact .p (.any _)
    · exact h.tmp t
  nd := fun t b' ht => by
    have ht' : (if (s.tmp t).ref = some b then D.any else s.tmp t).ref = some b' := ht
    split at ht'
    · simp [D.ref] at ht'
    · exact h.nd t b' ht'
  blk := h.blk
  inj := h.inj
  F := h.F
  Flt := h.Flt
  Xlt := h.Xlt
  below := h.below
  gh := h.gh
  ghnd := h.ghnd
/-- Block b moves to a new place; nobody points into it. -/
theorem RelB.moved {c : Ctx} {n : Nat} {s : FSt} {a : Act} {w : World} {β : Nat → Nat} {X : Nat → Prop} (h : RelB c n s a w β X) (b : Nat) (hgb : c.gb ≤ b)
    (hno : ∀ t, (s.tmp t).ref ≠ some b) (e : TypeId) (us : Array Value) (cs : List D) (hle : cs.length ≤ us.size) (hr : Reps w X (us.toList.take cs.length) cs) :
    RelB c n (s.setBlk b (some cs)) a (w.alloc (.cells us e)) (fun k => if k = b then w.heap.size else β k) (fun k => X k ∨ k = w.heap.size) := by
  have h0 : RelB c n (s.setBlk b none) a w β X := by
    refine ⟨h.defers, h.size, h.tmp, fun t b' ht => ?_, fun k cs' hk => ?_, fun k k' hk hk' he => ?_, h.F, h.Flt, h.Xlt, h.below, h.gh, fun p hp b' hb' => ?_⟩
    · show (if b' = b then none else s.blk b').isSome = true
      rw [if_neg (fun e => hno t (by rw [← e]; exact ht))]; exact h.nd t b' ht
    · have hk' : (if k = b then none else s.blk k) = some cs' := hk
      split at hk'
      · cases hk'
      · exact h.blk k cs' hk'
    · have q1 : (if k = b then none else s.blk k).isSome = true := hk
      have q2 : (if k' = b then none else s.blk k').isSome = true := hk'
      split at q1
      · simp at q1
      · split at q2
        · simp at q2
        · exact h.inj k k' q1 q2 he
    · obtain ⟨h1, h2⟩ := h.ghnd p hp b' hb'
      refine ⟨h1, ?_⟩
      show (if b' = b then none else s.blk b').isSome = true
      rw [if_neg (by omega)]; exact h2
  have h1 := h0.new b (by simp [FSt.setBlk]) e us cs hle hr
  have e2 : (s.setBlk b none).setBlk b (some cs) = s.setBlk b (some cs) := by
    simp only [FSt.setBlk]
    congr 1
    funext k
    split <;> rfl
  rw [e2] at h1; exact h1

/-- What pointers into a block become when the block is never written again. -/
def D.thaw (b : Nat) (cs : List D) : D → D
  | .ptr b' off => if b' == b then .rptr (cs.drop off) else .ptr b' off
  | .slc b' off len cap => if b' == b then .row len false ((cs.drop off).take len) else .slc b' off len cap
  | .gsl b' n size => if b' == b then .row n false (cs.take (n * size)) else .gsl b' n size
  | d => d
def FSt.freeze (s : FSt) (b : Nat) (cs : List D) : FSt where
  tmp := fun t => (s.tmp t).thaw b cs
  blk := fun k => if k = b then none else s.blk k
theorem thaw_rep {β : Nat → Nat} {w : World} {X : Nat → Prop} {b : Nat} {cs : List D} {us : Array Value} {e : TypeId} (hu : w.heap[β b]? = some (.cells us e (0, 0)))
    (hr : Reps w X (us.toList.take cs.length) cs) {v : Value} {d : D} (hv : RepV β w X v d) : RepV β w (fun k => X k ∧ k ≠ β b) v (d.thaw b cs) := by
  have hmono : ∀ a u, w.cell? a = some u → ¬ X a.block → w.cell? a = some u ∧ ¬ (X a.block ∧ a.block ≠ β b) := fun a u h hx => ⟨h, fun h2 => hx h2.1⟩
  have hr' := hr.mono (X' := fun k => X k ∧ k ≠ β b) hmono
  have cells : ∀ off m i (h : i < ((us.toList.take cs.length).drop off |>.take m).length), w.cell? ((⟨β b, off, none⟩ : Addr).add i) = some (((us.toList.take cs.length).drop off |>.take m)[i]) := by
    intro off m i hi
    rw [Addr.lit_add, cell_of_row w _ _ us e (0, 0) hu]
    simp at hi ⊢
  cases hv with
  | p hp =>
    have : d.thaw b cs = d := by cases hp <;> rfl
    rw [this]; exact .p (hp.mono hmono)
  | ptr b' off =>
    by_cases hb : b' = b
    · subst hb
      simp only [D.thaw, beq_self_eq_true, if_true]
      have h2 := hr'.drop off
      refine .p (.rptr _ _ _ h2.1 (fun i hi => ⟨fun hx => hx.2 rfl, ?_⟩) h2.2)
      have := cells off ((us.toList.take cs.length).drop off).length i (by rw [List.take_length]; exact hi)
      simpa using this
    · have : (D.ptr b' off).thaw b cs = .ptr b' off := by simp [D.thaw, hb]
      rw [this]; exact .ptr b' off
  | slc b' off len cap h1 h2 =>
    by_cases hb : b' = b
    · subst hb
      simp only [D.thaw, beq_self_eq_true, if_true]
      have h3 := (hr'.drop off).take len
      exact .p (.row _ _ _ _ _ _ h3.1 h1 h2 (fun h => by cases h) (fun i hi => ⟨_, rfl, fun hx => hx.2 rfl, cells off len i hi⟩) h3.2)
    · have : (D.slc b' off len cap).thaw b cs = .slc b' off len cap := by simp [D.thaw, hb]
      rw [this]; exact .slc b' off len cap h1 h2
  | gsl b' n size cap e' h1 h2 h3 =>
    by_cases hb : b' = b
    · subst hb
      simp only [D.thaw, beq_self_eq_true, if_true]
      have h4 := (hr'.drop 0).take (n * size)
      refine .p (.row _ _ _ _ _ _ h4.1 h1 h2 (fun h => by cases h) (fun i hi => ⟨_, rfl, fun hx => hx.2 rfl, cells 0 (n * size) i hi⟩) h4.2)
    · have : (D.gsl b' n size).thaw b cs = .gsl b' n size := by simp [D.thaw, hb]
      rw [this]; exact .gsl b' n size cap e' h1 h2 h3
theorem thaw_ref {d : D} {b b' : Nat} {cs : List D} (h : (d.thaw b cs).ref = some b') : d.ref = some b' ∧ b' ≠ b := by
  cases d <;> simp only [D.thaw] at h
  case ptr b2 off =>
    by_cases hb : b2 = b
    · subst hb; simp [D.ref] at h
    · simp [hb, D.ref] at h; subst h; exact ⟨rfl, hb⟩
  case slc b2 off len cap =>
    by_cases hb : b2 = b
    · subst hb; simp [D.ref] at h
    · simp [hb, D.ref] at h; subst h; exact ⟨rfl, hb⟩
  case gsl b2 n size =>
    by_cases hb : b2 = b
    · subst hb; simp [D.ref] at h
    · simp [hb, D.ref] at h; subst h; exact ⟨rfl, hb⟩
  all_goals (exfalso; revert h; simp [D.ref])
/-- A block is never written again. -/
theorem RelB.freeze {c : Ctx} {n : Nat} {s : FSt} {a : Act} {w : World} {β : Nat → Nat} {X : Nat → Prop} (h : RelB c n s a w β X) {b : Nat} {cs : List D} (hb : s.blk b = some cs) (hgb : c.gb ≤ b) :
    RelB c n (s.freeze b cs) a w β (fun k => X k ∧ k ≠ β b) := by
  obtain ⟨h1, h2, us, e, h3, _, h5⟩ := h.blk b cs hb
  have hmono : ∀ a u, w.cell? a = some u → ¬ X a.block → w.cell? a = some u ∧ ¬ (X a.block ∧ a.block ≠ β b) := fun a u h hx => ⟨h, fun h2 => hx h2.1⟩
  refine ⟨h.defers, h.size, fun t => thaw_rep h3 h5 (h.tmp t), fun t b' ht => ?_, fun k cs' hk => ?_, fun k k' hk hk' he => ?_, fun k hk => ⟨h.F k hk, fun e => by have := h.Flt k hk; omega⟩, h.Flt, fun k hk => h.Xlt k hk.1, h.below, fun p hp => ?_, fun p hp b' hb' => ?_⟩
  · obtain ⟨q1, q2⟩ := thaw_ref ht
    show (if b' = b then none else s.blk b').isSome = true
    rw [if_neg q2]; exact h.nd t b' q1
  · have hk' : (if k = b then none else s.blk k) = some cs' := hk
    split at hk'
    · cases hk'
    · rename_i hkb
      obtain ⟨q1, q2, us', e', q3, q4, q5⟩ := h.blk k cs' hk'
      exact ⟨q1, ⟨q2, fun e => hkb (h.inj k b (by rw [hk']; rfl) (by rw [hb]; rfl) e)⟩, us', e', q3, q4, q5.mono hmono⟩
  · have q1 : (if k = b then none else s.blk k).isSome = true := hk
    have q2 : (if k' = b then none else s.blk k').isSome = true := hk'
    split at q1
    · simp at q1
    · split at q2
      · simp at q2
      · exact h.inj k k' q1 q2 he
  · have : p.2.thaw b cs = p.2 := by
      have hne : p.2.ref ≠ some b := fun e => by have := (h.ghnd p hp b e).1; omega
      cases hd : p.2 <;> simp only [D.thaw] <;> rw [hd] at hne <;> simp only [D.ref, ne_eq, Option.some.injEq] at hne <;> simp [hne]
    have q := thaw_rep h3 h5 (h.gh p hp)
    rwa [this] at q
  · obtain ⟨q1, q2⟩ := h.ghnd p hp b' hb'
    refine ⟨q1, ?_⟩
    show (if b' = b then none else s.blk b').isSome = true
    rw [if_neg (by omega)]; exact q2
end Lw

namespace Lw
open Go Go.RowKit

/-- Run without a world: none where the world would be asked. -/
def pureRun {α : Type} (P : Program) : Sem α → Option α
  | .pure a => some a
  | .program k => pureRun P (k P)
  | .mark _ k => pureRun P k
  | .load .. | .store .. | .new .. | .shape .. | .freeze .. | .frozen .. | .getObj .. | .setObj .. | .choose .. | .sys .. | .halt .. => none

theorem pureRun_run {α : Type} {P : Program} {m : Sem α} {a : α} (h : pureRun P m = some a) (w : World) : m.run P w = .ok a w := by
  induction m with
  | pure b => simp only [pureRun, Option.some.injEq] at h; subst h; rfl
  | program k ih => simp only [pureRun] at h; simp only [Sem.run]; exact ih P h
  | mark m k ih => simp only [pureRun] at h; simp only [Sem.run]; exact ih h
  | load | store | new | shape | freeze | frozen | getObj | setObj | choose | sys | halt => simp [pureRun] at h

/-- A value as abstract data: in a cell, and alone. -/
def D.ofCell : Value → D
  | .slice none 0 0 => .row 0 false []
  | v => .lit v
def D.ofVal : Value → D
  | .agg cs => .agg (cs.toList.map D.ofCell)
  | .slice none 0 0 => .row 0 true []
  | v => .lit v
theorem nil_rep (w : World) (X : Nat → Prop) (f : Bool) : RepP w X (.slice none 0 0) (.row 0 f []) :=
  .row none 0 0 f [] [] rfl (Nat.le_refl 0) (by unfold maxLen; omega) (fun _ => rfl) (fun i h => absurd h (by simp)) (fun i h => absurd h (by simp))
theorem D.ofCell_rep (w : World) (X : Nat → Prop) (v : Value) : RepP w X v (D.ofCell v) := by
  unfold D.ofCell
  split
  · exact nil_rep w X false
  · exact .lit _
theorem reps_ofCell (w : World) (X : Nat → Prop) (l : List Value) : Reps w X l (l.map D.ofCell) :=
  ⟨by simp, fun i h1 h2 => by rw [List.getElem_map]; exact D.ofCell_rep w X _⟩
theorem RepP.ofReps {w : World} {X : Nat → Prop} {us : List Value} {xs : List D} (h : Reps w X us xs) : RepP w X (.agg us.toArray) (.agg xs) := .agg us xs h.1 h.2
theorem D.ofVal_rep (w : World) (X : Nat → Prop) (v : Value) : RepP w X v (D.ofVal v) := by
  unfold D.ofVal
  split
  · rename_i cs
    have := RepP.ofReps (reps_ofCell w X cs.toList)
    simpa using this
  · exact nil_rep w X true
  · exact .lit _
/-- A slice of which the capacity is not known. -/
def D.relax : D → D
  | .row n _ xs => .row n false xs
  | d => d
theorem relax_rep {w : World} {X : Nat → Prop} {v : Value} {d : D} (h : RepP w X v d) : RepP w X v d.relax := by
  cases h with
  | row a len cap full us xs hl hlen hcap hf hm hr => exact .row a len cap false us xs hl hlen hcap (fun h => by cases h) hm hr
  | any v => exact .any v
  | lit v => exact .lit v
  | rptr a us xs hl hm hr => exact .rptr a us xs hl hm hr
  | agg us xs hl hr => exact .agg us xs hl hr
  | tup us xs hl hr => exact .tup us xs hl hr

/-- Abstract data as a value, where it is one. -/
def D.toLit : D → Option Value
  | .lit v => some v
  | _ => none
def D.toLits : List D → Option (List Value)
  | [] => some []
  | x :: xs => match x.toLit, D.toLits xs with
    | some v, some vs => some (v :: vs)
    | _, _ => none
def D.toVal : D → Option Value
  | .lit v => some v
  | .agg xs => (D.toLits xs).map fun vs => .agg vs.toArray
  | _ => none
theorem toLits_eq {w : World} {X : Nat → Prop} : ∀ {us : List Value} {xs : List D} {vs : List Value}, Reps w X us xs → D.toLits xs = some vs → us = vs
  | us, [], vs, h, e => by
    simp only [D.toLits, Option.some.injEq] at e
    rw [← e]; exact List.eq_nil_of_length_eq_zero (by simpa using h.1)
  | us, x :: xs, vs, h, e => by
    cases us with
    | nil => have := h.1; simp at this
    | cons u us =>
      simp only [D.toLits] at e
      split at e
      · rename_i v vs' e1 e2
        simp only [Option.some.injEq] at e
        subst e
        have h1 := h.head
        have h2 := toLits_eq h.tail e2
        cases x <;> simp only [D.toLit, Option.some.injEq, reduceCtorEq] at e1
        subst e1
        cases h1
        rw [h2]
      · cases e
theorem toVal_eq {w : World} {X : Nat → Prop} {u v : Value} {d : D} (h : RepP w X u d) (e : d.toVal = some v) : u = v := by
  cases d <;> simp only [D.toVal, Option.some.injEq, reduceCtorEq] at e
  case lit => subst e; cases h; rfl
  case agg xs =>
    cases hx : D.toLits xs with
    | none => rw [hx] at e; cases e
    | some vs =>
      rw [hx] at e
      simp only [Option.map_some, Option.some.injEq] at e
      subst e
      cases h with
      | agg us _ hl hr => rw [toLits_eq ⟨hl, hr⟩ hx]
theorem toVal_ref {d : D} {v : Value} (e : d.toVal = some v) : d.ref = none := by
  cases d <;> simp [D.toVal, D.ref] at e ⊢

/-- The cells of abstract data. -/
def D.cells : D → Option (List D)
  | .agg xs => some xs
  | .lit v => match v with
    | .agg _ | .tuple _ => none
    | v => some [.lit v]
  | .row n _ xs => some [.row n false xs]
  | .rptr xs => some [.rptr xs]
  | _ => none
theorem cells_rep {w : World} {X : Nat → Prop} {v : Value} {d : D} {xs : List D} (h : RepP w X v d) (e : d.cells = some xs) : Reps w X v.cells.toList xs := by
  cases h with
  | any => simp [D.cells] at e
  | lit v =>
    cases v <;> simp only [D.cells, Option.some.injEq, reduceCtorEq] at e <;> subst e <;> exact Reps.cons (.lit _) Reps.nil
  | row a len cap full us ys hl hlen hcap hf hm hr =>
    simp only [D.cells, Option.some.injEq] at e; subst e
    exact Reps.cons (.row a len cap false us ys hl hlen hcap (fun h => by cases h) hm hr) Reps.nil
  | rptr a us ys hl hm hr =>
    simp only [D.cells, Option.some.injEq] at e; subst e
    exact Reps.cons (.rptr a us ys hl hm hr) Reps.nil
  | agg us ys hl hr =>
    simp only [D.cells, Option.some.injEq] at e; subst e
    have e : (Value.agg us.toArray).cells.toList = us := by simp [Value.cells]
    rw [e]; exact ⟨hl, hr⟩
  | tup => simp [D.cells] at e
theorem cells_ref {d : D} {xs : List D} (e : d.cells = some xs) : d.ref = none := by
  cases d <;> simp [D.cells, D.ref] at e ⊢
/-- May it stand in one cell? -/
def D.cellOk : D → Bool
  | .lit v => match v with
    | .agg _ | .tuple _ => false
    | _ => true
  | .row .. | .rptr .. => true
  | _ => false
theorem cellOk_one {w : World} {X : Nat → Prop} {v : Value} {d : D} (h : RepP w X v d) (e : d.cellOk = true) : v.oneCell' = true := by
  cases h with
  | any => simp [D.cellOk] at e
  | lit v => cases v <;> simp [D.cellOk, Value.oneCell'] at e ⊢
  | row => rfl
  | rptr => rfl
  | agg => simp [D.cellOk] at e
  | tup => simp [D.cellOk] at e

/-! Types. -/
def tySize (P : Program) (t : TypeId) : Option Nat := (P.info? t).map (·.size)
def tyZero (P : Program) (t : TypeId) : Option Value := (P.info? t).bind (·.zero)
def tyAgg (P : Program) (t : TypeId) : Option Bool := (P.underlying t).map fun | .struct _ | .array _ _ => true | _ => false
def tyZeros (P : Program) (t : TypeId) : Option (List D) := (tyZero P t).map fun z => z.cells.toList.map D.ofCell
def tyField (P : Program) (s : TypeId) (f : Nat) : Option (Nat × TypeId) :=
  match P.underlying s with
  | some (.struct fields) => (fields[f]?).map fun f => (f.offset, f.type)
  | _ => none
def tyElem (P : Program) (t : TypeId) : Option (Option Nat × TypeId) :=
  match P.underlying t with
  | some (.slice e) => some (none, e)
  | some (.array n e) => some (some n, e)
  | _ => none

def tyStr (P : Program) (t : TypeId) : Bool := match P.underlying t with | some .string => true | _ => false
/-- The text that abstract data is. -/
def D.str : D → Option ByteArray
  | .lit v => match v with
    | .string s => some s
    | _ => none
  | _ => none
/-- What is owed beside the step: a proposition, and a Bool that the kernel may reckon in its place. -/
inductive Need where
  | no
  | want (p : Prop) (b : Bool) (h : b = true → p)
def Need.ok : Need → Prop
  | .no => True
  | .want p _ _ => p
def need (p : Prop) [Decidable p] : Need := .want p (decide p) of_decide_eq_true
@[simp] theorem need_ok (p : Prop) [Decidable p] : (need p).ok = p := rfl
@[simp] theorem no_ok : Need.no.ok = True := rfl

/-- Effects. -/
inductive Eff where
  | val (d : D)
  | new (b : Nat) (cs : List D) (d : D)
  | store (b off : Nat) (ds : List D)
  | grow (b : Nat) (cs : List D) (d : D)
  | call (f : FuncId) (args : List D)

/-- Parts are filled in. -/
def fillD (place : Nat → Option (Nat × Nat)) : List D → List (Nat × D) → Option (List D)
  | cs, [] => some cs
  | cs, (i, d) :: rest =>
    match place i, d.cells with
    | some (off, size), some ds => if ds.length == size && Nat.ble (off + size) cs.length then fillD place (cs.take off ++ (ds ++ cs.drop (off + size))) rest else none
    | _, _ => none
def buildD (P : Program) (t : TypeId) (parts : List (Nat × D)) : Option (List D) :=
  match P.info? t, P.underlying t with
  | some it, some (.array _ e) =>
    match it.zero, P.info? e with
    | some z, some ie => fillD (fun i => some (i * ie.size, ie.size)) (z.cells.toList.map D.ofCell) parts
    | _, _ => none
  | some it, some (.struct fields) =>
    match it.zero, fields.toList.mapM (fun f => (P.info? f.type).map fun i => (f.offset, i.size)) with
    | some z, some places => fillD (places.toArray[·]?) (z.cells.toList.map D.ofCell) parts
    | _, _ => none
  | _, _ => none
def rowZeros (zs : List D) (n : Nat) : List D := (List.range n).map fun i => zs.getD (i % zs.length) .any
def buildSliceD (P : Program) (t : TypeId) (len : Nat) (parts : List (Nat × D)) : Option (List D) :=
  match P.underlying t with
  | some (.slice e) => match tySize P e, tyZeros P e with
    | some n, some zs => if Nat.ble (len * n) (2 ^ 24) && zs.length == n && Nat.blt 0 n then fillD (fun i => some (i * n, n)) (rowZeros zs (len * n)) parts else none
    | _, _ => none
  | _ => none

def callTarget (P : Program) (v : D) : Option FuncId :=
  match v with
  | .lit (.func (.func f) first captured) => match P.funcs[f]? with
    | some fn => if (first.size == 0 && captured.size == 0) && (fn.body.isSome && !(fn.name == "runtime.NumGoroutine")) then some f else none
    | none => none
  | _ => none

/-- What an operand holds. -/
def FSt.ev (s : FSt) : Operand → D
  | .tmp t => s.tmp t
  | .const v => D.ofVal v
  | .global g => .lit (.pointer (some ⟨g, 0, none⟩))
  | .func f => .lit (.func (.func f) #[] #[])

/-- The effect of an operation, from what its operands hold and what own blocks hold. nb: the next own block's number; ro: this operation's new block is never written; gb: below it the own blocks of those who wait. -/
def eff (P : Program) (o : Oper) (ρ : Operand → D) (blk : Nat → Option (List D)) (nb : Nat) (ro : Bool) (gb : Nat) : Option (Eff × Need) :=
  match o.op with
  | .move x | .assign x => some (.val (ρ x), .no)
  | .pick c a b => match ρ c with
    | .lit (.bool true) => some (.val (ρ a), .no)
    | .lit (.bool false) => some (.val (ρ b), .no)
    | _ => none
  | .alloc elem => match tyZeros P elem with
    | some zs => if ro then some (.val (.rptr zs), .no) else some (.new nb zs (.ptr nb 0), .no)
    | none => none
  | .box _ x => match (ρ x).cells with
    | some cs => if ro then some (.val (.rptr cs), .no) else some (.new nb cs (.ptr nb 0), .no)
    | none => none
  | .build t parts => match buildD P t (parts.toList.map fun p => (p.1, ρ p.2)) with
    | some cs => some (.val (.agg cs), .no)
    | none => none
  | .buildSlice t len parts => match buildSliceD P t len (parts.toList.map fun p => (p.1, ρ p.2)) with
    | some cs => some (.val (.row len true cs), .no)
    | none => none
  | .load t addr => match tySize P t, tyAgg P t with
    | some sz, some ag => match ρ addr with
      | .rptr cs => some (.val (if ag then .agg (cs.take sz) else cs.headD .any), need (0 < sz ∧ sz ≤ cs.length))
      | .ptr b off => match blk b with
        | some cs => some (.val (if ag then .agg ((cs.drop off).take sz) else (cs.drop off).headD .any), need (0 < sz ∧ off + sz ≤ cs.length))
        | none => none
      | _ => none
    | _, _ => none
  | .store t addr x => match ρ addr, (ρ x).cells, tySize P t with
    | .ptr b off, some ds, some sz => match blk b with
      | some cs => if ds.length == sz && ds.all D.cellOk then some (.store b off ds, need (off + sz ≤ cs.length)) else none
      | none => none
    | _, _, _ => none
  | .binOp op xType x y _ => match (ρ x).toVal, (ρ y).toVal with
    | some (.int k a), some (.int k' b) => match op with
      | .quo => if k = k' then some (.val (.lit (.int k (k.wrap (a.tdiv b)))), need (b ≠ 0)) else none
      | .rem => if k = k' then some (.val (.lit (.int k (a.tmod b))), need (b ≠ 0)) else none
      | .shl => some (.val (.lit (.int k (k.wrap (a * 2 ^ min b.toNat k.bits)))), need (0 ≤ b))
      | .shr => some (.val (.lit (.int k (a.fdiv (2 ^ min b.toNat k.bits)))), need (0 ≤ b))
      | op => match pureRun P (do eqGuard op xType x y (.int k a) (.int k' b); binOp op xType (.int k a) (.int k' b)) with
        | some v => some (.val (.lit v), .no)
        | none => none
    | some a, some b => match pureRun P (do eqGuard op xType x y a b; binOp op xType a b) with
      | some v => some (.val (.lit v), .no)
      | none => none
    | _, _ => none
  | .unOp op _ x => match (ρ x).toVal with
    | some a => match pureRun P (Op.unary op a) with
      | some v => some (.val (.lit v), .no)
      | none => none
    | none => none
  | .convert src dst x => match (ρ x).toVal with
    | some a => match pureRun P (convert src dst a) with
      | some v => some (.val (.lit v), .no)
      | none => none
    | none => none
  | .makeInterface t x => match (ρ x).toVal with
    | some a => match pureRun P (Instr.makeInterface t a) with
      | some v => some (.val (.lit v), .no)
      | none => none
    | none => none
  | .typeAssert x t asserted ok => match (ρ x).toVal with
    | some a => match pureRun P (Instr.typeAssert a t asserted ok) with
      | some (.tuple vs) => some (.val (.tup (vs.toList.map D.ofCell)), .no)
      | some v => some (.val (D.ofCell v), .no)
      | none => none
    | none => none
  | .fieldAddr s x f => match tyField P s f with
    | some (off, t) => match tySize P t with
      | some sz => if Nat.blt 0 sz then
          match ρ x with
          | .ptr b o => some (.val (.ptr b (o + off)), .no)
          | .rptr cs => some (.val (.rptr (cs.drop off)), .no)
          | _ => none
        else none
      | none => none
    | none => none
  | .field s x f => match tyField P s f, ρ x with
    | some (off, t), .agg cs => match tySize P t, tyAgg P t with
      | some sz, some ag => some (.val (if ag then .agg ((cs.drop off).take sz) else (cs.drop off).headD .any), need (off < cs.length))
      | _, _ => none
    | _, _ => none
  | .indexAddr t x ix => match tyElem P t, (ρ ix).toVal with
    | some (none, e), some (.int _ i) => match tySize P e with
      | some sz => match ρ x with
        | .row len _ cs => some (.val (.rptr (cs.drop (i.toNat * sz))), need ((0 ≤ i ∧ i < len) ∧ i.toNat * sz < cs.length))
        | .slc b off len _ => some (.val (.ptr b (off + i.toNat * sz)), need (0 ≤ i ∧ i < len))
        | .gsl b len _ => some (.val (.ptr b (i.toNat * sz)), need (0 ≤ i ∧ i < len))
        | _ => none
      | none => none
    | some (some n, e), some (.int _ i) => match tySize P e with
      | some sz => match ρ x with
        | .rptr cs => some (.val (.rptr (cs.drop (i.toNat * sz))), need (0 ≤ i ∧ i < n))
        | .ptr b off => some (.val (.ptr b (off + i.toNat * sz)), need (0 ≤ i ∧ i < n))
        | _ => none
      | none => none
    | _, _ => none
  | .index t x ix => match (ρ ix).toVal with
    | some (.int _ i) => match tyElem P t, ρ x with
      | some (some n, e), .agg cs => match tySize P e, tyAgg P e with
        | some sz, some ag => some (.val (if ag then .agg ((cs.drop (i.toNat * sz)).take sz) else (cs.drop (i.toNat * sz)).headD .any), need ((0 ≤ i ∧ i < n) ∧ i.toNat * sz < cs.length))
        | _, _ => none
      | none, d => match tyStr P t, d.str with
        | true, some s => some (.val (.lit (.int .u8 ((s[i.toNat]?).getD 0).toNat)), need (0 ≤ i ∧ i.toNat < s.size))
        | _, _ => none
      | _, _ => none
    | _ => none
  | .extract x i => match ρ x with
    | .tup ds => match ds[i]? with
      | some d => some (.val d, .no)
      | none => none
    | _ => none
  | .slice t x lo hi none => match tyElem P t with
    | some (none, e) => match tySize P e, ρ x, (match lo with | some l => (ρ l).toVal | none => some (.int .i64 0)) with
      | some sz, .row len full cs, some (.int _ l) => match (match hi with | some h => (ρ h).toVal | none => some (.int .i64 len)) with
        | some (.int _ h) => some (.val (.row (h.toNat - l.toNat) (full && hi.isNone) ((cs.drop (l.toNat * sz)).take ((h.toNat - l.toNat) * sz))), need (0 ≤ l ∧ l ≤ h ∧ h ≤ len))
        | _ => none
      | some sz, .slc b off len cap, some (.int _ l) => match (match hi with | some h => (ρ h).toVal | none => some (.int .i64 len)) with
        | some (.int _ h) => some (.val (.slc b (off + l.toNat * sz) (h.toNat - l.toNat) (cap - l.toNat)), need (0 ≤ l ∧ l ≤ h ∧ h ≤ len ∧ l < cap))
        | _ => none
      | some _, .gsl b len size, some (.int _ l) => match (match hi with | some h => (ρ h).toVal | none => some (.int .i64 len)) with
        | some (.int _ h) => if l == 0 then some (.val (.gsl b h.toNat size), need (0 ≤ h ∧ h ≤ len)) else none
        | _ => none
      | _, _, _ => none
    | some (some n, e) => match tySize P e, ρ x, (match lo with | some l => (ρ l).toVal | none => some (.int .i64 0)) with
      | some sz, .rptr cs, some (.int _ l) => match (match hi with | some h => (ρ h).toVal | none => some (.int .i64 n)) with
        | some (.int _ h) => some (.val (.row (h.toNat - l.toNat) hi.isNone ((cs.drop (l.toNat * sz)).take ((h.toNat - l.toNat) * sz))), need (0 ≤ l ∧ l ≤ h ∧ h ≤ n ∧ n * sz ≤ cs.length ∧ n ≤ maxLen))
        | _ => none
      | _, _, _ => none
    | none => match tyStr P t, (ρ x).str, (match lo with | some l => (ρ l).toVal | none => none), (match hi with | some h => (ρ h).toVal | none => none) with
      | true, some s, some (.int _ l), some (.int _ h) => some (.val (.lit (.string (s.extract l.toNat h.toNat))), need (0 ≤ l ∧ l ≤ h ∧ h ≤ s.size))
      | _, _, _, _ => none
  | .makeSlice t l c => match tyElem P t, (ρ l).toVal, (ρ c).toVal with
    | some (none, e), some (.int .i64 len), some (.int .i64 cap) => match tyZeros P e, tySize P e, P.info? e with
      | some [z], some 1, some i => some (.new nb (List.replicate len.toNat z) (.slc nb 0 len.toNat len.toNat), need (len = cap ∧ 0 ≤ len ∧ len * i.bytes ≤ 2 ^ 47 ∧ len ≤ 2 ^ 62))
      | _, _, _ => none
    | _, _, _ => none
  | .call c => match c.callee with
    | .value f => match callTarget P (ρ f) with
      | some f => some (.call f (c.args.toList.map ρ), .no)
      | none => none
    | .builtin .len => match c.args.toList.map ρ with
      | [.row len _ _] => match c.argTypes.toList with
        | [t] => match tyElem P t with
          | some (none, _) => some (.val (.lit (.int .i64 len)), .no)
          | _ => none
        | _ => none
      | [.slc _ _ len _] => match c.argTypes.toList with
        | [t] => match tyElem P t with
          | some (none, _) => some (.val (.lit (.int .i64 len)), .no)
          | _ => none
        | _ => none
      | [.gsl _ len _] => match c.argTypes.toList with
        | [t] => match tyElem P t with
          | some (none, _) => some (.val (.lit (.int .i64 len)), .no)
          | _ => none
        | _ => none
      | [d] => match d.toVal with
        | some v => match pureRun P (Builtin.len_ c.argTypes o.type #[v]) with
          | some v => some (.val (.lit v), .no)
          | none => none
        | none => none
      | _ => none
    | .builtin .max => match D.toLits (c.args.toList.map ρ) with
      | some vs => match pureRun P (Builtin.max_ c.argTypes o.type vs.toArray) with
        | some v => some (.val (.lit v), .no)
        | none => none
      | none => none
    | .builtin .min => match D.toLits (c.args.toList.map ρ) with
      | some vs => match pureRun P (Builtin.min_ c.argTypes o.type vs.toArray) with
        | some v => some (.val (.lit v), .no)
        | none => none
      | none => none
    | .builtin .append => match c.args.toList.map ρ, c.argTypes.toList with
      | [x, .row m _ ys], [t, t'] => match tyElem P t with
        | some (none, e) => match P.info? e with
          | some i => if t == t' && i.zero.any (fun z => z.cells.size == i.size) && Nat.blt 0 i.size then match x with
              | .row n true xs => if ro then some (.val (.row (n + m) false (xs ++ ys)), need (xs.length = n * i.size ∧ ys.length = m * i.size ∧ n + m ≤ 2 ^ 62 ∧ (n + m) * i.bytes ≤ 2 ^ 47))
                  else some (.new nb (xs ++ ys) (.gsl nb (n + m) i.size), need (0 < m ∧ xs.length = n * i.size ∧ ys.length = m * i.size ∧ n + m ≤ 2 ^ 62 ∧ (n + m) * i.bytes ≤ 2 ^ 47))
              | .gsl b n sz => match blk b with
                | some cs => if sz == i.size && (Nat.ble gb b && ys.all D.cellOk) then some (.grow b (cs ++ ys) (.gsl b (n + m) sz), need (0 < m ∧ cs.length = n * i.size ∧ ys.length = m * i.size ∧ n + m ≤ 2 ^ 62 ∧ (n + m) * i.bytes ≤ 2 ^ 47)) else none
                | none => none
              | _ => none
            else none
          | none => none
        | _ => none
      | _, _ => none
    | _ => none
  | _ => none
end Lw

namespace Lw
open Go Go.RowKit

variable {c : Ctx} {n : Nat} {s : FSt} {a : Act} {w : World} {β : Nat → Nat} {X : Nat → Prop}

theorem ev_rep (h : RelB c n s a w β X) (x : Operand) : RepV β w X (a.eval x) (s.ev x) := by
  cases x with
  | tmp t => exact h.tmp t
  | const v => exact .p (D.ofVal_rep w X v)
  | global g => exact .p (.lit _)
  | func f => exact .p (.lit _)
theorem ofCell_ref (v : Value) : (D.ofCell v).ref = none := by unfold D.ofCell; split <;> rfl
theorem ofVal_ref (v : Value) : (D.ofVal v).ref = none := by unfold D.ofVal; split <;> rfl
theorem ev_nd (h : RelB c n s a w β X) (x : Operand) (b : Nat) (hb : (s.ev x).ref = some b) : (s.blk b).isSome = true := by
  cases x with
  | tmp t => exact h.nd t b hb
  | const v => simp [FSt.ev, ofVal_ref] at hb
  | global g => simp [FSt.ev, D.ref] at hb
  | func f => simp [FSt.ev, D.ref] at hb
theorem ev_val (h : RelB c n s a w β X) {x : Operand} {v : Value} (e : (s.ev x).toVal = some v) : a.eval x = v :=
  toVal_eq ((ev_rep h x).pure (toVal_ref e)) e
theorem ev_cells (h : RelB c n s a w β X) {x : Operand} {xs : List D} (e : (s.ev x).cells = some xs) : Reps w X (a.eval x).cells.toList xs :=
  cells_rep ((ev_rep h x).pure (cells_ref e)) e

theorem Reps.takeAll {us : List Value} {cs : List D} (h : Reps w X us cs) : Reps w X (us.take cs.length) cs := by
  rw [← h.1, List.take_length]; exact h
theorem splice_take {α : Type} (l vs : List α) (off k : Nat) (h : off + vs.length ≤ k) (hk : k ≤ l.length) :
    (l.take off ++ vs ++ l.drop (off + vs.length)).take k = (l.take k).take off ++ (vs ++ (l.take k).drop (off + vs.length)) := by
  apply List.ext_getElem?
  intro i
  simp only [List.getElem?_take, List.getElem?_append, List.getElem?_drop, List.length_take, List.length_append]
  by_cases h1 : i < off
  · simp [h1, show i < k by omega, show off ≤ l.length by omega, show i < off + vs.length by omega]
    intro h9; omega
  · by_cases h2 : i < off + vs.length
    · simp [h1, show i < k by omega, show min off l.length = off by omega, show min off (min k l.length) = off by omega, h2, show i - off < vs.length by omega]
    · by_cases h3 : i < k
      · simp [h1, h3, show min off l.length = off by omega, show min off (min k l.length) = off by omega, h2, show ¬ i - off < vs.length by omega]
        rw [if_pos (by omega)]
        congr 1; omega
      · simp [h3, show ¬ i < min off (min k l.length) by omega, show ¬ i - min off (min k l.length) < vs.length by omega]
        intro h9; omega

/-- What 'eff' promises. -/
def EffOk (c : Ctx) (n : Nat) (s : FSt) (a : Act) (w : World) (β : Nat → Nat) (X : Nat → Prop) (nb : Nat) (o : Oper) : Eff → Prop
  | .val d => ∃ v w', (execOp a.eval o).run c.P w = .ok (.value v) w' ∧ Below w.heap.size w w' ∧ RepV β w' X v d ∧ ∀ b, d.ref = some b → (s.blk b).isSome = true
  | .new b cs d => b = nb ∧ ∃ w1 us e v, (execOp a.eval o).run c.P w = .ok (.value v) (w1.alloc (.cells us e)) ∧ Below w.heap.size w w1 ∧ w1.heap.size = w.heap.size ∧
      cs.length ≤ us.size ∧ Reps w X (us.toList.take cs.length) cs ∧ d.ref = some b ∧
      ∀ β' w' X', β' b = w.heap.size → w'.shape? w.heap.size = some (e, us.size) → RepV β' w' X' v d
  | .store b off ds => ∃ cs us us' e, s.blk b = some cs ∧ w.heap[β b]? = some (.cells us e (0, 0)) ∧ (execOp a.eval o).run c.P w = .ok .skip (w.setRow (β b) us') ∧ us'.size = us.size ∧
      off + ds.length ≤ cs.length ∧ cs.length ≤ us.size ∧ Reps w X (us'.toList.take cs.length) (cs.take off ++ (ds ++ cs.drop (off + ds.length)))
  | .grow b cs d => ∃ v w' β' X', (execOp a.eval o).run c.P w = .ok (.value v) w' ∧ RelB c n ((s.clear b).setBlk b (some cs)) a w' β' X' ∧ RepV β' w' X' v d ∧ d.ref = some b
  | .call f args => ∃ vals : List Value, (execOp a.eval o).run c.P w = .ok (.enter f vals.toArray) w ∧ vals.length = args.length ∧ (∀ i (h : i < vals.length) (h' : i < args.length), RepV β w X vals[i] args[i]) ∧
      ∀ d ∈ args, ∀ b, d.ref = some b → (s.blk b).isSome = true

theorem EffOk.same {nb : Nat} {o : Oper} {v : Value} {d : D} (hrun : (execOp a.eval o).run c.P w = .ok (.value v) w) (hv : RepV β w X v d)
    (hd : ∀ b, d.ref = some b → (s.blk b).isSome = true) : EffOk c n s a w β X nb o (.val d) := ⟨v, w, hrun, Below.refl _ _, hv, hd⟩
theorem EffOk.lit {nb : Nat} {o : Oper} {v : Value} (hrun : (execOp a.eval o).run c.P w = .ok (.value v) w) : EffOk c n s a w β X nb o (.val (.lit v)) :=
  EffOk.same hrun (.p (.lit v)) (fun b hb => by simp [D.ref] at hb)

theorem zeros_run (w : World) (X : Nat → Prop) {P : Program} {t : TypeId} {zs : List D} (e : tyZeros P t = some zs) : ∃ z, (zeroValue t).run P w = .ok z w ∧ Reps w X z.cells.toList zs ∧ zs.length = z.cells.size := by
  unfold tyZeros tyZero at e
  cases hi : P.info? t with
  | none => simp [hi] at e
  | some i =>
    cases hz : i.zero with
    | none => simp [hi, hz] at e
    | some z =>
      simp [hi, hz] at e
      subst e
      exact ⟨z, by simp [zeroValue, typeInfo, hi, hz], reps_ofCell w X _, by simp⟩
theorem repP_ref {v : Value} {d : D} (hv : RepP w X v d) : d.ref = none := by cases hv <;> rfl
theorem rptr_cells {v : Value} {xs : List D} (hv : RepP w X v (.rptr xs)) : ∃ ad us, v = .pointer (some ad) ∧ Reps w X us xs ∧ ∀ i (h : i < us.length), ¬ X ad.block ∧ w.cell? (ad.add i) = some us[i] := by
  cases hv with
  | rptr ad us _ hl hm hr => exact ⟨ad, us, rfl, ⟨hl, hr⟩, hm⟩
theorem ptr_val {v : Value} {b off : Nat} (hv : RepV β w X v (.ptr b off)) : v = .pointer (some ⟨β b, off, none⟩) := by
  cases hv with
  | p hp => cases hp
  | ptr => rfl
theorem slc_val {v : Value} {b off len cap : Nat} (hv : RepV β w X v (.slc b off len cap)) : v = .slice (some ⟨β b, off, none⟩) len cap ∧ len ≤ cap ∧ cap ≤ maxLen := by
  cases hv with
  | p hp => cases hp
  | slc _ _ _ _ h1 h2 => exact ⟨rfl, h1, h2⟩

/-- Loading from cells that read so. -/
theorem load_run {t : TypeId} {sz : Nat} {ag : Bool} {ad : Addr} {us : List Value} {xs : List D} (hs : tySize c.P t = some sz) (ha : tyAgg c.P t = some ag)
    (hr : Reps w X us xs) (hcell : ∀ i (h : i < us.length), w.cell? (ad.add i) = some us[i]) (h0 : 0 < sz) (hle : sz ≤ xs.length) :
    ∃ v, (loadVar t ad).run c.P w = .ok v w ∧ RepP w X v (if ag then .agg (xs.take sz) else xs.headD .any) := by
  unfold tySize at hs
  unfold tyAgg at ha
  cases hi : c.P.info? t with
  | none => rw [hi] at hs; cases hs
  | some i =>
    rw [hi] at hs
    simp only [Option.map_some, Option.some.injEq] at hs
    subst hs
    cases hu : c.P.underlying t with
    | none => rw [hu] at ha; cases ha
    | some d =>
      rw [hu] at ha
      simp only [Option.map_some, Option.some.injEq] at ha
      have hag : (isAgg t).run c.P w = .ok ag w := by
        rw [← ha]
        cases d <;> simp [isAgg, run_underlying hu]
      cases ag with
      | true =>
        have hl : i.size = (us.take i.size).length := by have := hr.1; simp; omega
        have hc : (loadCells ad i.size).run c.P w = .ok (us.take i.size).toArray w := by
          have := run_loadCells_list (P := c.P) w ad (us.take i.size) (fun j v hj => by
            rw [List.getElem?_take] at hj
            split at hj
            · obtain ⟨h1, h2⟩ := List.getElem?_eq_some_iff.1 hj
              rw [hcell j h1, h2]
            · cases hj)
          rw [← hl] at this; exact this
        refine ⟨.agg (us.take i.size).toArray, ?_, RepP.ofReps (hr.take i.size)⟩
        simp [loadVar, hag, Go.sizeOf, typeInfo, hi, hc]
      | false =>
        cases us with
        | nil => have := hr.1; simp at this; omega
        | cons u us =>
          cases xs with
          | nil => have := hr.1; simp at this
          | cons x xs =>
            refine ⟨u, ?_, hr.head⟩
            have := hcell 0 (by simp)
            have h00 : ad.add 0 = ad := by unfold Addr.add; simp
            rw [h00] at this
            simp [loadVar, hag, this]

section ops
variable (h : RelB c n s a w β X) {o : Oper} {nb : Nat}
include h

theorem ok_move {x : Operand} (ho : o.op = .move x ∨ o.op = .assign x) : EffOk c n s a w β X nb o (.val (s.ev x)) := by
  refine .same (v := a.eval x) ?_ (ev_rep h x) (ev_nd h x)
  rcases ho with ho | ho <;> simp [execOp, ho]
theorem ok_pick {k x y : Operand} (ho : o.op = .pick k x y) (b : Bool) (hk : s.ev k = .lit (.bool b)) : EffOk c n s a w β X nb o (.val (if b then s.ev x else s.ev y)) := by
  have hb : a.eval k = .bool b := ev_val h (by rw [hk]; rfl)
  refine .same (v := if b then a.eval x else a.eval y) ?_ (by cases b <;> first | exact ev_rep h y | exact ev_rep h x) (by cases b <;> first | exact ev_nd h y | exact ev_nd h x)
  simp [execOp, ho, hb, asBool]
theorem new_cells (us : Array Value) (e : TypeId) {cs : List D} (hr : Reps w X us.toList cs) :
    RepP (w.alloc (.cells us e)) X (.pointer (some ⟨w.heap.size, 0, none⟩)) (.rptr cs) := by
  have hb : Below w.heap.size w (w.alloc (.cells us e)) := (Below.refl _ _).alloc (Nat.le_refl _) _
  have hr' := hr.mono (stays_below (X := X) hb)
  refine .rptr _ us.toList cs hr'.1 (fun i hi => ⟨fun hx => ?_, ?_⟩) hr'.2
  · exact absurd (h.Xlt _ hx) (by simp)
  · rw [Addr.lit_add, Nat.zero_add, cell_of_row _ _ _ us e (0, 0) (heap_alloc_new w _)]
    simp
theorem ok_alloc {elem : TypeId} {ro : Bool} {zs : List D} (ho : o.op = .alloc elem) (hz : tyZeros c.P elem = some zs) :
    EffOk c n s a w β X nb o (if ro then .val (.rptr zs) else .new nb zs (.ptr nb 0)) := by
  obtain ⟨z, hrun, hr, hzl⟩ := zeros_run w X hz
  have hx : (execOp a.eval o).run c.P w = .ok (.value (.pointer (some ⟨w.heap.size, 0, none⟩))) (w.alloc (.cells z.cells elem)) := by
    simp [execOp, ho, Instr.alloc, hrun, newVar, newRow]
  cases ro with
  | true => exact ⟨_, _, hx, (Below.refl _ _).alloc (Nat.le_refl _) _, .p (new_cells h _ _ hr), fun b hb => by simp [D.ref] at hb⟩
  | false => exact ⟨rfl, w, _, _, _, hx, Below.refl _ _, rfl, by omega, hr.takeAll, rfl, fun β' w' X' hβ _ => by rw [← hβ]; exact .ptr nb 0⟩
theorem ok_box {elem : TypeId} {x : Operand} {ro : Bool} {cs : List D} (ho : o.op = .box elem x) (hc : (s.ev x).cells = some cs) :
    EffOk c n s a w β X nb o (if ro then .val (.rptr cs) else .new nb cs (.ptr nb 0)) := by
  have hr := ev_cells h hc
  have hx : (execOp a.eval o).run c.P w = .ok (.value (.pointer (some ⟨w.heap.size, 0, none⟩))) (w.alloc (.cells (a.eval x).cells elem)) := by
    simp [execOp, ho, Instr.box, newVar, newRow]
  cases ro with
  | true => exact ⟨_, _, hx, (Below.refl _ _).alloc (Nat.le_refl _) _, .p (new_cells h _ _ hr), fun b hb => by simp [D.ref] at hb⟩
  | false => exact ⟨rfl, w, _, _, _, hx, Below.refl _ _, rfl, by have := hr.1; rw [Array.length_toList] at this; omega, hr.takeAll, rfl, fun β' w' X' hβ _ => by rw [← hβ]; exact .ptr nb 0⟩
theorem fill_rep (place : Nat → Option (Nat × Nat)) : ∀ (parts : List (Nat × Operand)) (us : Array Value) (cs cs' : List D), Reps w X us.toList cs →
    fillD place cs (parts.map fun p => (p.1, s.ev p.2)) = some cs' →
    ∃ us', Instr.fill place us (parts.map fun p => (p.1, a.eval p.2)) = some us' ∧ Reps w X us'.toList cs'
  | [], us, cs, cs', hr, e => by
    simp only [List.map_nil, fillD, Option.some.injEq] at e
    subst e
    exact ⟨us, by simp [Instr.fill], hr⟩
  | (i, x) :: rest, us, cs, cs', hr, e => by
    simp only [List.map_cons, fillD] at e
    split at e
    · rename_i off size ds e1 e2
      split at e
      · rename_i hc
        simp only [Bool.and_eq_true, beq_iff_eq, Nat.ble_eq] at hc
        have hd := ev_cells h e2
        have hsz : (a.eval x).cells.size = size := by have := hd.1; rw [Array.length_toList] at this; omega
        have hus : us.size = cs.length := by simpa using hr.1
        obtain ⟨f1, f2⟩ := Great.foldl_set off (a.eval x).cells.toList 0 us
        have hz : (a.eval x).cells.zipIdx.toList = (a.eval x).cells.toList.zipIdx 0 := by rw [Array.toList_zipIdx]
        generalize hU : ((a.eval x).cells.toList.zipIdx 0).foldl (fun cs (x : Value × Nat) => cs.setIfInBounds (off + x.2) x.1) us = U at f1 f2
        have hnew : U.toList = us.toList.take off ++ ((a.eval x).cells.toList ++ us.toList.drop (off + size)) := by
          apply List.ext_getElem?
          intro k
          rw [Array.getElem?_toList, f2 k]
          simp only [Nat.add_zero, Array.length_toList, hsz]
          by_cases k1 : k < off
          · rw [if_neg (by omega), List.getElem?_append_left (by simp; omega), List.getElem?_take, if_pos k1, Array.getElem?_toList]
          · by_cases k2 : k < off + size
            · rw [if_pos ⟨by omega, k2, by omega⟩, List.getElem?_append_right (by simp; omega), List.getElem?_append_left (by simp; omega)]
              congr 1; simp; omega
            · rw [if_neg (by omega), List.getElem?_append_right (by simp; omega), List.getElem?_append_right (by simp; omega), List.getElem?_drop, Array.getElem?_toList]
              congr 1; simp; omega
        have hr2 : Reps w X U.toList (cs.take off ++ (ds ++ cs.drop (off + size))) := by
          rw [hnew]; exact (hr.take off).append (hd.append (hr.drop (off + size)))
        obtain ⟨us', g1, g2⟩ := fill_rep place rest U _ cs' hr2 e
        refine ⟨us', ?_, g2⟩
        simp only [List.map_cons, Instr.fill, e1]
        rw [if_neg (by simp [hsz]; omega)]
        have : (a.eval x).cells.zipIdx.foldl (fun cs (x : Value × Nat) => cs.setIfInBounds (off + x.2) x.1) us = U := by
          rw [← Array.foldl_toList, hz]; exact hU
        simp only [this]; exact g1
      · cases e
    · cases e
theorem ok_build {t : TypeId} {parts : Array (Nat × Operand)} {cs : List D} (ho : o.op = .build t parts)
    (e : buildD c.P t (parts.toList.map fun p => (p.1, s.ev p.2)) = some cs) : EffOk c n s a w β X nb o (.val (.agg cs)) := by
  have key : ∀ us', (Instr.build t (parts.map fun p => (p.1, a.eval p.2))).run c.P w = .ok (.agg us') w → Reps w X us'.toList cs → EffOk c n s a w β X nb o (.val (.agg cs)) := by
    intro us' hrun hr
    refine .same (v := .agg us') ?_ (.p ?_) (fun b hb => by simp [D.ref] at hb)
    · simp [execOp, ho, hrun]
    · have := RepP.ofReps hr; simpa using this
  have key2 : ∀ us', c.P.built t ((parts.map fun p => (p.1, a.eval p.2)).toList) = some us' → Reps w X us'.toList cs → EffOk c n s a w β X nb o (.val (.agg cs)) :=
    fun us' hb hr => key us' (run_build w t _ us' hb) hr
  unfold buildD at e
  split at e
  · rename_i it n e' e1 e2
    split at e
    · rename_i z ie e3 e4
      obtain ⟨us', hf, hr'⟩ := fill_rep h _ parts.toList z.cells _ cs (reps_ofCell w X _) e
      exact key2 us' (by simp only [Program.built, e1, e2, e3, e4, Array.toList_map]; exact hf) hr'
    · cases e
  · rename_i it fields e1 e2
    split at e
    · rename_i z places e3 e4
      obtain ⟨us', hf, hr'⟩ := fill_rep h _ parts.toList z.cells _ cs (reps_ofCell w X _) e
      exact key2 us' (by simp only [Program.built, e1, e2, e3, e4, Array.toList_map]; exact hf) hr'
    · cases e
  · cases e

theorem ok_buildSlice {t : TypeId} {len : Nat} {parts : Array (Nat × Operand)} {cs : List D} (ho : o.op = .buildSlice t len parts)
    (e : buildSliceD c.P t len (parts.toList.map fun p => (p.1, s.ev p.2)) = some cs) : EffOk c n s a w β X nb o (.val (.row len true cs)) := by
  unfold buildSliceD at e
  split at e
  · rename_i el e1
    split at e
    · rename_i k zs e2 e3
      split at e
      · rename_i hc
        simp only [Bool.and_eq_true, beq_iff_eq, Nat.ble_eq, Nat.blt_eq] at hc
        unfold tySize at e2
        unfold tyZeros tyZero at e3
        cases hi : c.P.info? el with
        | none => rw [hi] at e2; cases e2
        | some ie =>
          rw [hi] at e2 e3
          simp only [Option.map_some, Option.some.injEq, Option.bind_some] at e2 e3
          cases hz : ie.zero with
          | none => rw [hz] at e3; cases e3
          | some z =>
            rw [hz] at e3
            simp only [Option.map_some, Option.some.injEq] at e3
            subst e2
            have hlen : zs.length = z.cells.size := by rw [← e3]; simp
            have hzr : Reps w X ((Array.range (len * ie.size)).map (z.cells[· % z.cells.size]!)).toList (rowZeros zs (len * ie.size)) := by
              refine ⟨by simp [rowZeros], fun i h1 h2 => ?_⟩
              have hlt : i % z.cells.size < z.cells.size := Nat.mod_lt _ (by omega)
              have hx := (reps_ofCell w X z.cells.toList).2 (i % z.cells.size) (by simpa using hlt) (by simpa using hlt)
              simp only [Array.toList_map, List.getElem_map, Array.toList_range, List.getElem_range, rowZeros, ← e3]
              rw [List.getD_eq_getElem?_getD, List.getElem?_eq_getElem (by simpa using hlt), Option.getD_some, getElem!_pos z.cells _ hlt]
              simpa using hx
            obtain ⟨us', hf, hr'⟩ := fill_rep h (fun i => some (i * ie.size, ie.size)) parts.toList _ _ cs hzr e
            have hf' : Instr.fill (fun i => some (i * ie.size, ie.size)) ((Array.range (len * ie.size)).map (z.cells[· % z.cells.size]!)) ((parts.map fun p => (p.1, a.eval p.2)).toList) = some us' := by
              rw [Array.toList_map]; exact hf
            have hrun : (Instr.buildSlice t len (parts.map fun p => (p.1, a.eval p.2))).run c.P w = .ok (.slice (some ⟨w.heap.size, 0, none⟩) len len) (w.alloc (.cells us' el)) := by
              by_cases h0 : len * ie.size = 0
              · have hl0 : len = 0 := by
                  rcases Nat.mul_eq_zero.1 h0 with h1 | h1
                  · exact h1
                  · omega
                subst hl0
                have hus : (Array.range (0 * ie.size)).map (z.cells[· % z.cells.size]!) = (#[] : Array Value) := by rw [h0]; simp
                rw [hus, Array.toList_map] at hf'
                have hz0 : Array.map (fun _ => (default : Value)) (Array.range 0) = #[] := by apply Array.eq_empty_of_size_eq_zero; simp
                simp only [Instr.buildSlice, Sem.run_bind, run_underlying e1, Result.andThen_ok, Go.sizeOf, typeInfo, program, Sem.run, hi, Sem.run_pure, Nat.zero_mul]
                simp [hz0, hf', newRow]
              · exact run_buildSlice w t el len _ us' ie z e1 hi hz (by omega) h0 hf'
            have hb : Below w.heap.size w (w.alloc (.cells us' el)) := (Below.refl _ _).alloc (Nat.le_refl _) _
            have hr2 := hr'.mono (stays_below (X := X) hb)
            have hle : len ≤ maxLen := by
              have : len * 1 ≤ len * ie.size := Nat.mul_le_mul_left _ hc.2
              unfold maxLen; omega
            refine ⟨_, _, ?_, hb, .p (.row (some ⟨w.heap.size, 0, none⟩) len len true us'.toList cs hr2.1 (Nat.le_refl _) hle (fun _ => rfl) (fun i hi => ⟨_, rfl, fun hx => absurd (h.Xlt _ hx) (by simp), ?_⟩) hr2.2), fun b hb => by simp [D.ref] at hb⟩
            · simp [execOp, ho, hrun]
            · rw [Addr.lit_add, Nat.zero_add, cell_of_row _ _ _ us' el (0, 0) (heap_alloc_new w _)]
              simp
      · cases e
    · cases e
  · cases e

/-- The cells behind an own pointer. -/
theorem own_cells {b off : Nat} {cs : List D} (hb : s.blk b = some cs) : ∃ us : List Value, Reps w X us (cs.drop off) ∧
    ∀ i (h : i < us.length), w.cell? ((⟨β b, off, none⟩ : Addr).add i) = some us[i] := by
  obtain ⟨_, _, us, e, hu, _, hr⟩ := h.blk b cs hb
  refine ⟨(us.toList.take cs.length).drop off, hr.drop off, fun i hi => ?_⟩
  rw [Addr.lit_add, cell_of_row w _ _ us e (0, 0) hu]
  simp at hi ⊢
theorem ok_load_rptr {t : TypeId} {x : Operand} {sz : Nat} {ag : Bool} {cs : List D} (ho : o.op = .load t x) (hs : tySize c.P t = some sz) (ha : tyAgg c.P t = some ag)
    (hx : s.ev x = .rptr cs) (h0 : 0 < sz) (hle : sz ≤ cs.length) : EffOk c n s a w β X nb o (.val (if ag then .agg (cs.take sz) else cs.headD .any)) := by
  have hv := ev_rep h x
  rw [hx] at hv
  obtain ⟨ad, us, e1, e2, e3⟩ := rptr_cells (hv.pure rfl)
  obtain ⟨v, hrun, hrep⟩ := load_run hs ha e2 (fun i hi => (e3 i hi).2) h0 hle
  refine .same (v := v) ?_ (.p hrep) (fun b hb => ?_)
  · simp [execOp, ho, Instr.loadAt, Instr.sureAddr, e1, hrun]
  · rw [repP_ref hrep] at hb; cases hb
theorem ok_load_ptr {t : TypeId} {x : Operand} {sz b off : Nat} {ag : Bool} {cs : List D} (ho : o.op = .load t x) (hs : tySize c.P t = some sz) (ha : tyAgg c.P t = some ag)
    (hx : s.ev x = .ptr b off) (hb : s.blk b = some cs) (h0 : 0 < sz) (hle : off + sz ≤ cs.length) :
    EffOk c n s a w β X nb o (.val (if ag then .agg ((cs.drop off).take sz) else (cs.drop off).headD .any)) := by
  have hv := ev_rep h x
  rw [hx] at hv
  obtain ⟨us, e2, e3⟩ := own_cells h (off := off) hb
  obtain ⟨v, hrun, hrep⟩ := load_run hs ha e2 e3 h0 (by simp; omega)
  refine .same (v := v) ?_ (.p hrep) (fun b hb => by rw [repP_ref hrep] at hb; cases hb)
  simp [execOp, ho, Instr.loadAt, Instr.sureAddr, ptr_val hv, hrun]
theorem ok_store {t : TypeId} {x y : Operand} {b off sz : Nat} {ds cs : List D} (ho : o.op = .store t x y) (hs : tySize c.P t = some sz)
    (hx : s.ev x = .ptr b off) (hy : (s.ev y).cells = some ds) (hb : s.blk b = some cs) (hl : ds.length = sz) (hok : ds.all D.cellOk = true) (hle : off + sz ≤ cs.length) :
    EffOk c n s a w β X nb o (.store b off ds) := by
  have hv := ev_rep h x
  rw [hx] at hv
  have hr := ev_cells h hy
  obtain ⟨_, _, us, e, hu, hlu, hcs⟩ := h.blk b cs hb
  have hvl : (a.eval y).cells.toList.length = sz := by rw [hr.1]; exact hl
  have hvs : (a.eval y).cells.size = sz := by simpa using hvl
  have hone : ∀ v ∈ (a.eval y).cells.toList, v.oneCell' = true := by
    intro v hv
    obtain ⟨i, hi, rfl⟩ := List.mem_iff_getElem.1 hv
    have h2 : i < ds.length := by rw [← hr.1]; exact hi
    exact cellOk_one (hr.2 i hi h2) (List.all_eq_true.1 hok _ (List.getElem_mem h2))
  have hst := run_storeCells_at c.P (β b) off e (a.eval y).cells.toList 0 us w hu (by rw [hvl]; omega) hone
  refine ⟨cs, us, (us.toList.take off ++ (a.eval y).cells.toList ++ us.toList.drop (off + sz)).toArray, e, hb, hu, ?_, ?_, by omega, hlu, ?_⟩
  · have hsz : (Go.sizeOf t).run c.P w = .ok sz w := by
      unfold tySize at hs
      cases hi : c.P.info? t with
      | none => rw [hi] at hs; cases hs
      | some i => rw [hi] at hs; simp only [Option.map_some, Option.some.injEq] at hs; subst hs; simp [Go.sizeOf, typeInfo, hi]
    simp only [Nat.add_zero, hvl] at hst
    simp [execOp, ho, Instr.storeAt, Instr.sureAddr, ptr_val hv, storeVar, hsz, hvs, hst]
  · simp only [List.size_toArray, List.length_append, List.length_take, List.length_drop, Array.length_toList, hvs]
    omega
  · have e1 := splice_take us.toList (a.eval y).cells.toList off cs.length (by rw [hvl]; omega) (by simpa using hlu)
    rw [hvl] at e1
    have : (us.toList.take off ++ (a.eval y).cells.toList ++ us.toList.drop (off + sz)).toArray.toList.take cs.length = (us.toList.take off ++ (a.eval y).cells.toList ++ us.toList.drop (off + sz)).take cs.length := by simp
    rw [this, e1, hl]
    exact (hcs.take off).append (hr.append (hcs.drop (off + sz)))
end ops
end Lw

namespace Lw
open Go Go.RowKit

variable {c : Ctx} {n : Nat} {s : FSt} {a : Act} {w : World} {β : Nat → Nat} {X : Nat → Prop}

theorem size_run {t : TypeId} {sz : Nat} {P : Program} (w : World) (hs : tySize P t = some sz) : (Go.sizeOf t).run P w = .ok sz w := by
  unfold tySize at hs
  cases hi : P.info? t with
  | none => rw [hi] at hs; cases hs
  | some i => rw [hi] at hs; simp only [Option.map_some, Option.some.injEq] at hs; subst hs; simp [Go.sizeOf, typeInfo, hi]
theorem field_run {P : Program} {t : TypeId} {f off : Nat} {ft : TypeId} (e : tyField P t f = some (off, ft)) :
    ∃ fields fd, P.underlying t = some (.struct fields) ∧ fields[f]? = some fd ∧ fd.offset = off ∧ fd.type = ft := by
  unfold tyField at e
  split at e
  · rename_i fields h1
    cases hf : fields[f]? with
    | none => rw [hf] at e; cases e
    | some fd =>
      rw [hf] at e
      simp only [Option.map_some, Option.some.injEq, Prod.mk.injEq] at e
      exact ⟨fields, fd, h1, hf, e.1, e.2⟩
  · cases e
theorem elem_slice {P : Program} {t : TypeId} {e : TypeId} (h : tyElem P t = some (none, e)) : P.underlying t = some (.slice e) := by
  unfold tyElem at h
  split at h
  · rename_i e1 h1
    simp only [Option.some.injEq, Prod.mk.injEq, true_and] at h
    rw [h1, h]
  · simp at h
  · cases h
theorem elem_array {P : Program} {t : TypeId} {n : Nat} {e : TypeId} (h : tyElem P t = some (some n, e)) : P.underlying t = some (.array n e) := by
  unfold tyElem at h
  split at h
  · simp at h
  · rename_i n1 e1 h1
    simp only [Option.some.injEq, Prod.mk.injEq] at h
    rw [h1, h.1, h.2]
  · cases h
theorem agg_run {t : TypeId} {ag : Bool} {P : Program} (w : World) (ha : tyAgg P t = some ag) : (isAgg t).run P w = .ok ag w := by
  unfold tyAgg at ha
  cases hu : P.underlying t with
  | none => rw [hu] at ha; cases ha
  | some d =>
    rw [hu] at ha
    simp only [Option.map_some, Option.some.injEq] at ha
    rw [← ha]
    cases d <;> simp [isAgg, run_underlying hu]
theorem rptr_mk {ad : Addr} {us : List Value} {xs : List D} (hr : Reps w X us xs) (hm : ∀ i (h : i < us.length), ¬ X ad.block ∧ w.cell? (ad.add i) = some us[i]) :
    RepP w X (.pointer (some ad)) (.rptr xs) := .rptr ad us xs hr.1 hm hr.2
theorem rptr_drop {ad : Addr} {us : List Value} {xs : List D} (hr : Reps w X us xs) (hm : ∀ i (h : i < us.length), ¬ X ad.block ∧ w.cell? (ad.add i) = some us[i]) (k : Nat) :
    RepP w X (.pointer (some (ad.add k))) (.rptr (xs.drop k)) := by
  refine rptr_mk (hr.drop k) fun i hi => ?_
  have h1 : k + i < us.length := by simp at hi; omega
  obtain ⟨h2, h3⟩ := hm (k + i) h1
  exact ⟨by rw [Addr.block_add]; exact h2, by rw [Addr.add_add, h3, List.getElem_drop]⟩
/-- A part of an aggregate. -/
theorem part_run {t : TypeId} {sz : Nat} {ag : Bool} {P : Program} (hs : tySize P t = some sz) (ha : tyAgg P t = some ag) {us : Array Value} {cs : List D} (hr : Reps w X us.toList cs) {off : Nat} (hlt : off < cs.length) :
    ∃ v, (part t us off).run P w = .ok v w ∧ RepP w X v (if ag then .agg ((cs.drop off).take sz) else (cs.drop off).headD .any) := by
  cases ag with
  | true =>
    refine ⟨.agg (us.extract off (off + sz)), by simp [part, agg_run w ha, size_run w hs], ?_⟩
    have := RepP.ofReps ((hr.drop off).take sz)
    have e : ((us.toList.drop off).take sz).toArray = us.extract off (off + sz) := by
      apply Array.toList_inj.1
      simp [Array.toList_extract]
    rw [e] at this; exact this
  | false =>
    have h1 : off < us.size := by have := hr.1; simp at this; omega
    refine ⟨us[off], by simp [part, agg_run w ha, h1], ?_⟩
    have := hr.2 off (by simpa using h1) hlt
    have e : (cs.drop off).headD .any = cs[off] := by
      rw [List.drop_eq_getElem_cons hlt]; rfl
    simp only [Bool.false_eq_true, if_false, e]
    simpa using this
theorem agg_val {v : Value} {cs : List D} (hv : RepP w X v (.agg cs)) : ∃ us : Array Value, v = .agg us ∧ Reps w X us.toList cs := by
  cases hv with
  | agg us _ hl hr => exact ⟨us.toArray, rfl, by simpa using hl, fun i h1 h2 => by simpa using hr i (by simpa using h1) h2⟩
theorem row_val {v : Value} {len : Nat} {full : Bool} {xs : List D} (hv : RepP w X v (.row len full xs)) :
    ∃ ad cap us, v = .slice ad len cap ∧ len ≤ cap ∧ cap ≤ maxLen ∧ (full = true → cap = len) ∧ Reps w X us xs ∧
      ∀ i (h : i < us.length), ∃ a', ad = some a' ∧ ¬ X a'.block ∧ w.cell? (a'.add i) = some us[i] := by
  cases hv with
  | row ad len cap full us _ hl hlen hcap hf hm hr => exact ⟨ad, cap, us, rfl, hlen, hcap, hf, ⟨hl, hr⟩, hm⟩
theorem str_under {P : Program} {t : TypeId} (h : tyStr P t = true) : P.underlying t = some .string := by
  unfold tyStr at h
  split at h
  · assumption
  · cases h
theorem str_val {v : Value} {d : D} {s : ByteArray} (hv : RepP w X v d) (h : d.str = some s) : v = .string s := by
  cases hv with
  | lit v => cases v <;> simp only [D.str, Option.some.injEq, reduceCtorEq] at h; subst h; rfl
  | _ => simp [D.str] at h
theorem str_ref {d : D} {s : ByteArray} (h : d.str = some s) : d.ref = none := by cases d <;> simp [D.str, D.ref] at h ⊢
theorem tup_val {v : Value} {cs : List D} (hv : RepP w X v (.tup cs)) : ∃ us : Array Value, v = .tuple us ∧ Reps w X us.toList cs := by
  cases hv with
  | tup us _ hl hr => exact ⟨us.toArray, rfl, by simpa using hl, fun i h1 h2 => by simpa using hr i (by simpa using h1) h2⟩

theorem bound_run {P : Program} (w : World) {k : IntKind} {i : Int} {y : Nat} {code : BoundsCode} (h1 : 0 ≤ i) (h2 : i ≤ y) : (Instr.sliceBound (.int k i) y code).run P w = .ok i.toNat w := by
  simp [Instr.sliceBound, asIntOf, h1, h2]
theorem gsl_val {v : Value} {b n size : Nat} (hv : RepV β w X v (.gsl b n size)) : ∃ cap e, v = .slice (some ⟨β b, 0, none⟩) n cap ∧ n ≤ cap ∧ cap ≤ maxLen ∧ w.shape? (β b) = some (e, cap * size) := by
  cases hv with
  | p hp => cases hp
  | gsl _ _ _ cap e h1 h2 h3 => exact ⟨cap, e, rfl, h1, h2, h3⟩
/-- What is appended. -/
theorem news_cells {v : Value} {q : Nat} {full : Bool} {ys : List D} (hv : RepP w X v (.row q full ys)) {sz : Nat} (hl : ys.length = q * sz) (hq : 0 < q) (h0 : 0 < sz) :
    ∃ a' cap' us', v = .slice (some a') q cap' ∧ us'.length = q * sz ∧ Reps w X us' ys ∧ ∀ j u, us'[j]? = some u → w.cell? (a'.add j) = some u := by
  obtain ⟨ad', cap', us', f1, f2, f3, f4, f5, f6⟩ := row_val hv
  have hul' : us'.length = q * sz := by rw [f5.1]; exact hl
  have hpos : 0 < us'.length := by rw [hul']; exact Nat.mul_pos hq h0
  obtain ⟨a', rfl, _, _⟩ := f6 0 hpos
  refine ⟨a', cap', us', f1, hul', f5, fun j u hj => ?_⟩
  obtain ⟨h1, rfl⟩ := List.getElem?_eq_some_iff.1 hj
  obtain ⟨a2, q1, _, q3⟩ := f6 j h1
  cases q1; exact q3
/-- Append onto a slice without room: new cells. -/
theorem append_fresh {P : Program} {t e ty : TypeId} {i : TypeInfo} {z : Value} {p q : Nat} {xs ys : List D} {v v' : Value} {full : Bool} (he : P.underlying t = some (.slice e)) (hi : P.info? e = some i) (hz : i.zero = some z) (hzs : z.cells.size = i.size) (h0 : 0 < i.size)
    (hx : RepP w X v (.row p true xs)) (hy : RepP w X v' (.row q full ys)) (hq : 0 < q)
    (hn : xs.length = p * i.size ∧ ys.length = q * i.size ∧ p + q ≤ 2 ^ 62 ∧ (p + q) * i.bytes ≤ 2 ^ 47) :
    ∃ us cap, (Builtin.append_ #[t, t] ty #[v, v']).run P w = .ok (.slice (some ⟨w.heap.size, 0, none⟩) (p + q) cap) (w.drew.alloc (.cells us e)) ∧ p + q ≤ cap ∧ cap ≤ maxLen ∧ us.size = cap * i.size ∧
      (xs ++ ys).length ≤ us.size ∧ Reps w X (us.toList.take (xs ++ ys).length) (xs ++ ys) := by
  obtain ⟨ad, cap, us, rfl, e2, e3, e4, e5, e6⟩ := row_val hx
  obtain ⟨a', cap', us', rfl, hul', f5, hnews⟩ := news_cells hy hn.2.1 hq h0
  obtain rfl := e4 rfl
  have hul : us.length = cap * i.size := by rw [e5.1]; exact hn.1
  have hby : (cap + q) * i.bytes ≤ 140737488355328 := by
    have h47 : (2:Nat) ^ 47 = 140737488355328 := by decide
    have := hn.2.2.2; omega
  have key : ∀ (old : Nat), (Builtin.append_ #[t, t] ty #[.slice ad cap cap, .slice (some a') q cap']).run P w = .ok (.slice (some ⟨w.heap.size, 0, none⟩) (cap + q) (grownCap w (cap + q) old e))
        (w.drew.alloc (.cells (us.toArray ++ us'.toArray ++ Builtin.zeroCells z.cells (grownCap w (cap + q) old e - (cap + q))) e)) →
      ∃ us2 cap2, (Builtin.append_ #[t, t] ty #[.slice ad cap cap, .slice (some a') q cap']).run P w = .ok (.slice (some ⟨w.heap.size, 0, none⟩) (cap + q) cap2) (w.drew.alloc (.cells us2 e)) ∧ cap + q ≤ cap2 ∧ cap2 ≤ maxLen ∧ us2.size = cap2 * i.size ∧
        (xs ++ ys).length ≤ us2.size ∧ Reps w X (us2.toList.take (xs ++ ys).length) (xs ++ ys) := by
    intro old hr
    have hge := grownCap_ge w (cap + q) old e
    have hl2 : (xs ++ ys).length = (us ++ us').length := by simp [e5.1, f5.1]
    refine ⟨_, _, hr, hge, grownCap_le_maxLen _ _ _ _ (by unfold maxLen; omega), ?_, ?_, ?_⟩
    · simp only [Array.size_append, List.size_toArray, size_zeroCells, hzs, hul, hul', ← Nat.add_mul]
      congr 1; omega
    · rw [hl2]; simp
    · rw [hl2]
      have : (us.toArray ++ us'.toArray ++ Builtin.zeroCells z.cells (grownCap w (cap + q) old e - (cap + q))).toList.take (us ++ us').length = us ++ us' := by
        simp only [Array.toList_append, List.append_assoc]
        rw [← List.append_assoc, List.take_left]
      rw [this]
      exact e5.append f5
  cases ad with
  | none =>
    have hc0 : cap = 0 := by
      rcases Nat.eq_zero_or_pos cap with hc | hc
      · exact hc
      · have hp : 0 < us.length := by rw [hul]; exact Nat.mul_pos hc h0
        obtain ⟨a2, q1, _⟩ := e6 0 hp
        cases q1
    subst hc0
    have hus : us = [] := List.eq_nil_of_length_eq_zero (by omega)
    subst hus
    have hr := run_append_nil (P := P) w t ty e i z he hi hz a' q cap' us' hul' hnews hq (by omega) (by rw [Nat.zero_add] at hby; omega)
    refine key 0 ?_
    simpa using hr
  | some a1 =>
    have holds : ∀ j v, us[j]? = some v → w.cell? (a1.add j) = some v := by
      intro j v hj
      obtain ⟨h1, rfl⟩ := List.getElem?_eq_some_iff.1 hj
      obtain ⟨a2, q1, _, q3⟩ := e6 j h1
      cases q1; exact q3
    exact key cap (run_append_grow (P := P) w t ty e i z he hi hz a1 cap cap us hul holds a' q cap' us' hul' hnews (by omega) (by omega) (growslice_fits (by omega) hby))
theorem append_exec {o : Oper} {k : Call} {x y : Operand} {t : TypeId} (ho : o.op = .call k) (hk : k.callee = .builtin .append) (ha : k.args.toList = [x, y]) (ht : k.argTypes.toList = [t, t]) {v : Value} {w' : World}
    (hr : (Builtin.append_ #[t, t] o.type #[a.eval x, a.eval y]).run c.P w = .ok v w') : (execOp a.eval o).run c.P w = .ok (.value v) w' := by
  have ha' : k.args = #[x, y] := by apply Array.toList_inj.1; simpa using ha
  have ht' : k.argTypes = #[t, t] := by apply Array.toList_inj.1; simpa using ht
  simp [execOp, ho, resolve, hk, invoke, builtin, ha', ht', hr]
theorem run_append_spare {P : Program} (w : World) (t ty e e' : TypeId) (i : TypeInfo) (ht : P.underlying t = some (.slice e)) (hi : P.info? e = some i)
    (g sLen sCap : Nat) (cur : Array Value) (hg : w.heap[g]? = some (.cells cur e' (0, 0)))
    (a : Addr) (m c : Nat) (news : List Value) (hl : news.length = m * i.size) (hnews : ∀ j u, news[j]? = some u → w.cell? (a.add j) = some u) (h1 : ∀ u ∈ news, u.oneCell' = true)
    (hroom : sLen + m ≤ sCap) (hfit : sLen * i.size + news.length ≤ cur.size) :
    (Builtin.append_ #[t, t] ty #[.slice (some ⟨g, 0, none⟩) sLen sCap, .slice (some a) m c]).run P w =
      .ok (.slice (some ⟨g, 0, none⟩) (sLen + m) sCap) (w.setRow g (cur.toList.take (sLen * i.size) ++ news ++ cur.toList.drop (sLen * i.size + news.length)).toArray) := by
  have hf := run_firstCells_some (P := P) w i.size m a m c news hl hnews
  have hst := run_storeCells_at P g (sLen * i.size) e' news 0 cur w hg (by simpa using hfit) h1
  simp only [Nat.add_zero] at hst
  simp [Builtin.append_, run_underlying ht, Go.sizeOf, typeInfo, hi, Builtin.lenOf, hroom, hf, Addr.lit_add, hst]
section ops
variable (h : RelB c n s a w β X) {o : Oper} {nb : Nat}
include h

theorem ok_fieldAddr_ptr {t : TypeId} {x : Operand} {f off o' b : Nat} {ft : TypeId} {sz : Nat} (ho : o.op = .fieldAddr t x f) (e : tyField c.P t f = some (off, ft)) (hs : tySize c.P ft = some sz) (h0 : 0 < sz)
    (hx : s.ev x = .ptr b o') : EffOk c n s a w β X nb o (.val (.ptr b (o' + off))) := by
  have hv := ev_rep h x
  rw [hx] at hv
  have hnd := ev_nd h x b (by rw [hx]; rfl)
  obtain ⟨fields, fd, h1, h2, h3, h4⟩ := field_run e
  subst h3 h4
  refine .same (v := .pointer (some ⟨β b, o' + fd.offset, none⟩)) ?_ (.ptr b _) (fun b' hb' => by simp only [D.ref, Option.some.injEq] at hb'; subst hb'; exact hnd)
  simp [execOp, ho, Instr.fieldAt, run_underlying h1, h2, ptr_val hv, Instr.sureAddr, fieldPlace, size_run w hs, Addr.lit_add]
  intro hz; omega
theorem ok_fieldAddr_rptr {t : TypeId} {x : Operand} {f off : Nat} {ft : TypeId} {sz : Nat} {cs : List D} (ho : o.op = .fieldAddr t x f) (e : tyField c.P t f = some (off, ft)) (hs : tySize c.P ft = some sz) (h0 : 0 < sz)
    (hx : s.ev x = .rptr cs) : EffOk c n s a w β X nb o (.val (.rptr (cs.drop off))) := by
  have hv := ev_rep h x
  rw [hx] at hv
  obtain ⟨fields, fd, h1, h2, h3, h4⟩ := field_run e
  subst h3 h4
  obtain ⟨ad, us, e1, e2, e3⟩ := rptr_cells (hv.pure rfl)
  refine .same (v := .pointer (some (ad.add fd.offset))) ?_ (.p (rptr_drop e2 e3 _)) (fun b' hb' => by simp [D.ref] at hb')
  simp [execOp, ho, Instr.fieldAt, run_underlying h1, h2, e1, Instr.sureAddr, fieldPlace, size_run w hs]
  intro hz; omega
theorem ok_field {t : TypeId} {x : Operand} {f off : Nat} {ft : TypeId} {sz : Nat} {ag : Bool} {cs : List D} (ho : o.op = .field t x f) (e : tyField c.P t f = some (off, ft)) (hs : tySize c.P ft = some sz) (ha : tyAgg c.P ft = some ag)
    (hx : s.ev x = .agg cs) (hlt : off < cs.length) : EffOk c n s a w β X nb o (.val (if ag then .agg ((cs.drop off).take sz) else (cs.drop off).headD .any)) := by
  have hv := ev_rep h x
  rw [hx] at hv
  obtain ⟨fields, fd, h1, h2, h3, h4⟩ := field_run e
  subst h3 h4
  obtain ⟨us, e1, e2⟩ := agg_val (hv.pure rfl)
  obtain ⟨v, hrun, hrep⟩ := part_run hs ha e2 hlt
  refine .same (v := v) ?_ (.p hrep) (fun b' hb' => by rw [repP_ref hrep] at hb'; cases hb')
  simp [execOp, ho, Instr.field, run_underlying h1, h2, e1, asAgg, hrun]
theorem ok_index {t : TypeId} {x ix : Operand} {i : Int} {k : IntKind} {m : Nat} {e : TypeId} {sz : Nat} {ag : Bool} {cs : List D} (ho : o.op = .index t x ix) (he : tyElem c.P t = some (some m, e))
    (hs : tySize c.P e = some sz) (ha : tyAgg c.P e = some ag) (hix : (s.ev ix).toVal = some (.int k i)) (hx : s.ev x = .agg cs) (hi : 0 ≤ i ∧ i < m) (hlt : i.toNat * sz < cs.length) :
    EffOk c n s a w β X nb o (.val (if ag then .agg ((cs.drop (i.toNat * sz)).take sz) else (cs.drop (i.toNat * sz)).headD .any)) := by
  have hv := ev_rep h x
  rw [hx] at hv
  obtain ⟨us, e1, e2⟩ := agg_val (hv.pure rfl)
  obtain ⟨v, hrun, hrep⟩ := part_run hs ha e2 hlt
  refine .same (v := v) ?_ (.p hrep) (fun b' hb' => by rw [repP_ref hrep] at hb'; cases hb')
  simp [execOp, ho, Instr.index, run_underlying (elem_array he), ev_val h hix, asIntOf, e1, hi, size_run w hs, hrun]
theorem ok_index_str {t : TypeId} {x ix : Operand} {i : Int} {k : IntKind} {b : ByteArray} (ho : o.op = .index t x ix) (he : tyStr c.P t = true)
    (hix : (s.ev ix).toVal = some (.int k i)) (hx : (s.ev x).str = some b) (hi : 0 ≤ i ∧ i.toNat < b.size) : EffOk c n s a w β X nb o (.val (.lit (.int .u8 ((b[i.toNat]?).getD 0).toNat))) := by
  have hv := str_val ((ev_rep h x).pure (str_ref hx)) hx
  refine .same (v := .int .u8 ((b[i.toNat]?).getD 0).toNat) ?_ (.p (.lit _)) (fun b' hb' => by simp [D.ref] at hb')
  simp [execOp, ho, Instr.index, run_underlying (str_under he), ev_val h hix, asIntOf, hv, hi]
theorem ok_slice_str {t : TypeId} {x : Operand} {lo hi : Option Operand} {k1 k2 : IntKind} {l u : Int} {b : ByteArray} (ho : o.op = .slice t x lo hi none) (he : tyStr c.P t = true) (hx : (s.ev x).str = some b)
    (hlo : (match lo with | some l => (s.ev l).toVal | none => none) = some (.int k1 l)) (hhi : (match hi with | some h => (s.ev h).toVal | none => none) = some (.int k2 u)) (hb : 0 ≤ l ∧ l ≤ u ∧ u ≤ b.size) :
    EffOk c n s a w β X nb o (.val (.lit (.string (b.extract l.toNat u.toNat)))) := by
  have hv := str_val ((ev_rep h x).pure (str_ref hx)) hx
  cases lo with
  | none => cases hlo
  | some lo => cases hi with
    | none => cases hhi
    | some hi =>
      refine .same (v := .string (b.extract l.toNat u.toNat)) ?_ (.p (.lit _)) (fun b' hb' => by simp [D.ref] at hb')
      have e1 := ev_val h hlo
      have e2 := ev_val h hhi
      have r1 := bound_run (P := c.P) w (k := k2) (i := u) (y := b.size) (code := .sliceAlen) (by omega) (by omega)
      have r2 := bound_run (P := c.P) w (k := k1) (i := l) (y := u.toNat) (code := .sliceB) (by omega) (by omega)
      simp [execOp, ho, Instr.sliceAt, Instr.slice, run_underlying (str_under he), Instr.sliceBounds, hv, e1, e2, r1, r2]
theorem ok_indexAddr_row {t : TypeId} {x ix : Operand} {i : Int} {k : IntKind} {e : TypeId} {sz len : Nat} {full : Bool} {cs : List D} (ho : o.op = .indexAddr t x ix) (he : tyElem c.P t = some (none, e))
    (hs : tySize c.P e = some sz) (hix : (s.ev ix).toVal = some (.int k i)) (hx : s.ev x = .row len full cs) (hi : 0 ≤ i ∧ i < len) (hlt : i.toNat * sz < cs.length) :
    EffOk c n s a w β X nb o (.val (.rptr (cs.drop (i.toNat * sz)))) := by
  have hv := ev_rep h x
  rw [hx] at hv
  obtain ⟨ad, cap, us, e1, e2, e3, e4, e5, e6⟩ := row_val (hv.pure rfl)
  obtain ⟨a', rfl, _, _⟩ := e6 (i.toNat * sz) (by rw [e5.1]; exact hlt)
  refine .same (v := .pointer (some (a'.add (i.toNat * sz)))) ?_ (.p (rptr_drop e5 (fun j hj => ?_) _)) (fun b' hb' => by simp [D.ref] at hb')
  · simp [execOp, ho, Instr.indexAt, run_underlying (elem_slice he), ev_val h hix, asIntOf, e1, hi, size_run w hs]
  · obtain ⟨a2, q1, q2, q3⟩ := e6 j hj
    cases q1
    exact ⟨q2, q3⟩
theorem ok_indexAddr_slc {t : TypeId} {x ix : Operand} {i : Int} {k : IntKind} {e : TypeId} {sz b off len cap : Nat} (ho : o.op = .indexAddr t x ix) (he : tyElem c.P t = some (none, e))
    (hs : tySize c.P e = some sz) (hix : (s.ev ix).toVal = some (.int k i)) (hx : s.ev x = .slc b off len cap) (hi : 0 ≤ i ∧ i < len) :
    EffOk c n s a w β X nb o (.val (.ptr b (off + i.toNat * sz))) := by
  have hv := ev_rep h x
  rw [hx] at hv
  have hnd := ev_nd h x b (by rw [hx]; rfl)
  refine .same (v := .pointer (some ⟨β b, off + i.toNat * sz, none⟩)) ?_ (.ptr b _) (fun b' hb' => by simp only [D.ref, Option.some.injEq] at hb'; subst hb'; exact hnd)
  simp [execOp, ho, Instr.indexAt, run_underlying (elem_slice he), ev_val h hix, asIntOf, (slc_val hv).1, hi, size_run w hs, Addr.lit_add]
theorem ok_indexAddr_gsl {t : TypeId} {x ix : Operand} {i : Int} {k : IntKind} {e : TypeId} {sz b len size : Nat} (ho : o.op = .indexAddr t x ix) (he : tyElem c.P t = some (none, e))
    (hs : tySize c.P e = some sz) (hix : (s.ev ix).toVal = some (.int k i)) (hx : s.ev x = .gsl b len size) (hi : 0 ≤ i ∧ i < len) :
    EffOk c n s a w β X nb o (.val (.ptr b (i.toNat * sz))) := by
  have hv := ev_rep h x
  rw [hx] at hv
  have hnd := ev_nd h x b (by rw [hx]; rfl)
  obtain ⟨cap, e', e1, _⟩ := gsl_val hv
  refine .same (v := .pointer (some ⟨β b, i.toNat * sz, none⟩)) ?_ (.ptr b _) (fun b' hb' => by simp only [D.ref, Option.some.injEq] at hb'; subst hb'; exact hnd)
  simp [execOp, ho, Instr.indexAt, run_underlying (elem_slice he), ev_val h hix, asIntOf, e1, hi, size_run w hs, Addr.lit_add]
theorem ok_indexAddr_rptr {t : TypeId} {x ix : Operand} {i : Int} {k : IntKind} {m : Nat} {e : TypeId} {sz : Nat} {cs : List D} (ho : o.op = .indexAddr t x ix) (he : tyElem c.P t = some (some m, e))
    (hs : tySize c.P e = some sz) (hix : (s.ev ix).toVal = some (.int k i)) (hx : s.ev x = .rptr cs) (hi : 0 ≤ i ∧ i < m) :
    EffOk c n s a w β X nb o (.val (.rptr (cs.drop (i.toNat * sz)))) := by
  have hv := ev_rep h x
  rw [hx] at hv
  obtain ⟨ad, us, e1, e2, e3⟩ := rptr_cells (hv.pure rfl)
  refine .same (v := .pointer (some (ad.add (i.toNat * sz)))) ?_ (.p (rptr_drop e2 e3 _)) (fun b' hb' => by simp [D.ref] at hb')
  simp [execOp, ho, Instr.indexAt, run_underlying (elem_array he), ev_val h hix, asIntOf, e1, Instr.sureAddr, hi, size_run w hs]
theorem ok_indexAddr_ptr {t : TypeId} {x ix : Operand} {i : Int} {k : IntKind} {m : Nat} {e : TypeId} {sz b off : Nat} (ho : o.op = .indexAddr t x ix) (he : tyElem c.P t = some (some m, e))
    (hs : tySize c.P e = some sz) (hix : (s.ev ix).toVal = some (.int k i)) (hx : s.ev x = .ptr b off) (hi : 0 ≤ i ∧ i < m) :
    EffOk c n s a w β X nb o (.val (.ptr b (off + i.toNat * sz))) := by
  have hv := ev_rep h x
  rw [hx] at hv
  have hnd := ev_nd h x b (by rw [hx]; rfl)
  refine .same (v := .pointer (some ⟨β b, off + i.toNat * sz, none⟩)) ?_ (.ptr b _) (fun b' hb' => by simp only [D.ref, Option.some.injEq] at hb'; subst hb'; exact hnd)
  simp [execOp, ho, Instr.indexAt, run_underlying (elem_array he), ev_val h hix, asIntOf, ptr_val hv, Instr.sureAddr, hi, size_run w hs, Addr.lit_add]
theorem ok_extract {x : Operand} {i : Nat} {ds : List D} {d : D} (ho : o.op = .extract x i) (hx : s.ev x = .tup ds) (hd : ds[i]? = some d) : EffOk c n s a w β X nb o (.val d) := by
  have hv := ev_rep h x
  rw [hx] at hv
  obtain ⟨us, e1, e2⟩ := tup_val (hv.pure rfl)
  obtain ⟨h1, rfl⟩ := List.getElem?_eq_some_iff.1 hd
  have h2 : i < us.size := by have := e2.1; rw [Array.length_toList] at this; omega
  have hr := e2.2 i (by simpa using h2) h1
  refine .same (v := us[i]) ?_ (.p (by simpa using hr)) (fun b' hb' => by rw [repP_ref hr] at hb'; cases hb')
  simp [execOp, ho, Instr.extract, e1, h2]
theorem ok_binOp {op : BinOp} {t u : TypeId} {x y : Operand} {va vb v : Value} (ho : o.op = .binOp op t x y u) (hx : (s.ev x).toVal = some va) (hy : (s.ev y).toVal = some vb)
    (hv : pureRun c.P (do eqGuard op t x y va vb; binOp op t va vb) = some v) : EffOk c n s a w β X nb o (.val (.lit v)) := by
  refine .lit ?_
  have := pureRun_run hv w
  simp only [execOp, ho, Sem.run_bind, ev_val h hx, ev_val h hy] at this ⊢
  rw [this]; rfl
theorem ok_quo {t u : TypeId} {x y : Operand} {k : IntKind} {p q : Int} (ho : o.op = .binOp .quo t x y u) (hx : (s.ev x).toVal = some (.int k p)) (hy : (s.ev y).toVal = some (.int k q)) (hq : q ≠ 0) :
    EffOk c n s a w β X nb o (.val (.lit (.int k (k.wrap (p.tdiv q))))) := by
  refine .lit ?_
  simp [execOp, ho, ev_val h hx, ev_val h hy, eqGuard, binOp, Op.intDiv, hq]
theorem ok_rem {t u : TypeId} {x y : Operand} {k : IntKind} {p q : Int} (ho : o.op = .binOp .rem t x y u) (hx : (s.ev x).toVal = some (.int k p)) (hy : (s.ev y).toVal = some (.int k q)) (hq : q ≠ 0) :
    EffOk c n s a w β X nb o (.val (.lit (.int k (p.tmod q)))) := by
  refine .lit ?_
  simp [execOp, ho, ev_val h hx, ev_val h hy, eqGuard, binOp, Op.intDiv, hq]
theorem ok_shl {t u : TypeId} {x y : Operand} {k k' : IntKind} {p q : Int} (ho : o.op = .binOp .shl t x y u) (hx : (s.ev x).toVal = some (.int k p)) (hy : (s.ev y).toVal = some (.int k' q)) (hq : 0 ≤ q) :
    EffOk c n s a w β X nb o (.val (.lit (.int k (k.wrap (p * 2 ^ min q.toNat k.bits))))) := by
  refine .lit ?_
  simp [execOp, ho, ev_val h hx, ev_val h hy, eqGuard, binOp, Op.shift, show ¬ q < 0 by omega]
theorem ok_shr {t u : TypeId} {x y : Operand} {k k' : IntKind} {p q : Int} (ho : o.op = .binOp .shr t x y u) (hx : (s.ev x).toVal = some (.int k p)) (hy : (s.ev y).toVal = some (.int k' q)) (hq : 0 ≤ q) :
    EffOk c n s a w β X nb o (.val (.lit (.int k (p.fdiv (2 ^ min q.toNat k.bits))))) := by
  refine .lit ?_
  simp [execOp, ho, ev_val h hx, ev_val h hy, eqGuard, binOp, Op.shift, show ¬ q < 0 by omega]
theorem ok_unOp {op : UnOp} {t : TypeId} {x : Operand} {va v : Value} (ho : o.op = .unOp op t x) (hx : (s.ev x).toVal = some va) (hv : pureRun c.P (Op.unary op va) = some v) : EffOk c n s a w β X nb o (.val (.lit v)) := by
  refine .lit ?_
  simp [execOp, ho, ev_val h hx, pureRun_run hv w]
theorem ok_convert {t u : TypeId} {x : Operand} {va v : Value} (ho : o.op = .convert t u x) (hx : (s.ev x).toVal = some va) (hv : pureRun c.P (convert t u va) = some v) : EffOk c n s a w β X nb o (.val (.lit v)) := by
  refine .lit ?_
  simp [execOp, ho, ev_val h hx, pureRun_run hv w]
theorem ok_makeInterface {t : TypeId} {x : Operand} {va v : Value} (ho : o.op = .makeInterface t x) (hx : (s.ev x).toVal = some va) (hv : pureRun c.P (Instr.makeInterface t va) = some v) : EffOk c n s a w β X nb o (.val (.lit v)) := by
  refine .lit ?_
  simp [execOp, ho, ev_val h hx, pureRun_run hv w]
theorem ok_typeAssert {t u : TypeId} {x : Operand} {ok : Bool} {va v : Value} (ho : o.op = .typeAssert x t u ok) (hx : (s.ev x).toVal = some va) (hv : pureRun c.P (Instr.typeAssert va t u ok) = some v) :
    EffOk c n s a w β X nb o (.val (match v with | .tuple vs => .tup (vs.toList.map D.ofCell) | v => D.ofCell v)) := by
  have hrun : (execOp a.eval o).run c.P w = .ok (.value v) w := by simp [execOp, ho, ev_val h hx, pureRun_run hv w]
  cases v with
  | tuple vs =>
    have := reps_ofCell w X vs.toList
    refine .same hrun (.p ?_) (fun b' hb' => by simp [D.ref] at hb')
    have := RepP.tup (w := w) (X := X) vs.toList _ this.1 this.2
    simpa using this
  | _ => exact .same hrun (.p (D.ofCell_rep w X _)) (fun b' hb' => by rw [ofCell_ref] at hb'; cases hb')
theorem ok_slice_row {t : TypeId} {x : Operand} {lo hi : Option Operand} {e : TypeId} {sz len : Nat} {full : Bool} {cs : List D} {k1 k2 : IntKind} {l u : Int} (ho : o.op = .slice t x lo hi none) (he : tyElem c.P t = some (none, e))
    (hs : tySize c.P e = some sz) (hx : s.ev x = .row len full cs)
    (hlo : (match lo with | some l => (s.ev l).toVal | none => some (.int .i64 0)) = some (.int k1 l))
    (hhi : (match hi with | some h => (s.ev h).toVal | none => some (.int .i64 len)) = some (.int k2 u)) (hb : 0 ≤ l ∧ l ≤ u ∧ u ≤ len) :
    EffOk c n s a w β X nb o (.val (.row (u.toNat - l.toNat) (full && hi.isNone) ((cs.drop (l.toNat * sz)).take ((u.toNat - l.toNat) * sz)))) := by
  have hv := ev_rep h x
  rw [hx] at hv
  obtain ⟨ad, cap, us, e1, e2, e3, e4, e5, e6⟩ := row_val (hv.pure rfl)
  have hbl : l.toNat ≤ u.toNat := by omega
  have hbu : u.toNat ≤ len := by omega
  have hrun : ∃ m, (Instr.sliceBounds true len cap (lo.map a.eval) (hi.map a.eval) none).run c.P w = .ok (l.toNat, u.toNat, m) w ∧ m = cap := by
    refine ⟨cap, ?_, rfl⟩
    cases hi with
    | none =>
      simp only [Option.some.injEq, Value.int.injEq] at hhi
      have hu : u.toNat = len := by omega
      cases lo with
      | none =>
        simp only [Option.some.injEq, Value.int.injEq] at hlo
        simp [Instr.sliceBounds, ← hlo.2, hu]
      | some lo =>
        have := ev_val h hlo
        simp [Instr.sliceBounds, this, bound_run w hb.1 (show l ≤ (len : Int) by omega), hu]
    | some hi =>
      have hhv := ev_val h hhi
      cases lo with
      | none =>
        simp only [Option.some.injEq, Value.int.injEq] at hlo
        simp [Instr.sliceBounds, hhv, bound_run w (show 0 ≤ u by omega) (show u ≤ (cap : Int) by omega), ← hlo.2]
      | some lo =>
        have := ev_val h hlo
        simp [Instr.sliceBounds, hhv, this, bound_run w (show 0 ≤ u by omega) (show u ≤ (cap : Int) by omega), bound_run w hb.1 (show l ≤ (u.toNat : Int) by omega)]
  obtain ⟨m, hrun, rfl⟩ := hrun
  have hexec : (execOp a.eval o).run c.P w = .ok (.value (.slice (if m = l.toNat then ad else ad.map (·.add (l.toNat * sz))) (u.toNat - l.toNat) (m - l.toNat))) w := by
    simp [execOp, ho, Instr.sliceAt, run_underlying (elem_slice he), Instr.slice, e1, hrun, size_run w hs]
  refine .same hexec (.p ?_) (fun b' hb' => by simp [D.ref] at hb')
  have hR := (e5.drop (l.toNat * sz)).take ((u.toNat - l.toNat) * sz)
  refine .row _ _ _ _ _ _ hR.1 (by omega) (by omega) (fun hf => ?_) (fun i hi' => ?_) hR.2
  · simp only [Bool.and_eq_true] at hf
    have := e4 hf.1
    cases hi with
    | none => simp only [Option.some.injEq, Value.int.injEq] at hhi; omega
    | some _ => simp at hf
  · have hpos : i < (u.toNat - l.toNat) * sz ∧ l.toNat * sz + i < us.length := by simp at hi'; omega
    obtain ⟨a', q1, q2, q3⟩ := e6 (l.toNat * sz + i) hpos.2
    have hne : m ≠ l.toNat := by
      intro hm
      have : u.toNat - l.toNat = 0 := by omega
      rw [this] at hpos; omega
    subst q1
    refine ⟨a'.add (l.toNat * sz), by rw [if_neg hne]; rfl, by rw [Addr.block_add]; exact q2, ?_⟩
    rw [Addr.add_add, q3, List.getElem_take, List.getElem_drop]
theorem ok_slice_array {t : TypeId} {x : Operand} {lo hi : Option Operand} {e : TypeId} {sz m : Nat} {cs : List D} {k1 k2 : IntKind} {l u : Int} (ho : o.op = .slice t x lo hi none) (he : tyElem c.P t = some (some m, e))
    (hs : tySize c.P e = some sz) (hx : s.ev x = .rptr cs)
    (hlo : (match lo with | some l => (s.ev l).toVal | none => some (.int .i64 0)) = some (.int k1 l))
    (hhi : (match hi with | some h => (s.ev h).toVal | none => some (.int .i64 m)) = some (.int k2 u)) (hb : 0 ≤ l ∧ l ≤ u ∧ u ≤ m ∧ m * sz ≤ cs.length ∧ m ≤ maxLen) :
    EffOk c n s a w β X nb o (.val (.row (u.toNat - l.toNat) hi.isNone ((cs.drop (l.toNat * sz)).take ((u.toNat - l.toNat) * sz)))) := by
  have hv := ev_rep h x
  rw [hx] at hv
  obtain ⟨ad, us, e1, e2, e3⟩ := rptr_cells (hv.pure rfl)
  have hrun : (Instr.sliceBounds false m m (lo.map a.eval) (hi.map a.eval) none).run c.P w = .ok (l.toNat, u.toNat, m) w := by
    cases hi with
    | none =>
      simp only [Option.some.injEq, Value.int.injEq] at hhi
      have hu : u.toNat = m := by omega
      cases lo with
      | none =>
        simp only [Option.some.injEq, Value.int.injEq] at hlo
        simp [Instr.sliceBounds, ← hlo.2, hu]
      | some lo =>
        have := ev_val h hlo
        simp [Instr.sliceBounds, this, bound_run w hb.1 (show l ≤ (m : Int) by omega), hu]
    | some hi =>
      have hhv := ev_val h hhi
      cases lo with
      | none =>
        simp only [Option.some.injEq, Value.int.injEq] at hlo
        simp [Instr.sliceBounds, hhv, bound_run w (show 0 ≤ u by omega) (show u ≤ (m : Int) by omega), ← hlo.2]
      | some lo =>
        have := ev_val h hlo
        simp [Instr.sliceBounds, hhv, this, bound_run w (show 0 ≤ u by omega) (show u ≤ (m : Int) by omega), bound_run w hb.1 (show l ≤ (u.toNat : Int) by omega)]
  have hexec : (execOp a.eval o).run c.P w = .ok (.value (.slice (some (if m = l.toNat then ad else ad.add (l.toNat * sz))) (u.toNat - l.toNat) (m - l.toNat))) w := by
    simp [execOp, ho, Instr.sliceAt, run_underlying (elem_array he), e1, Instr.sureAddr, hrun, size_run w hs]
  refine .same hexec (.p ?_) (fun b' hb' => by simp [D.ref] at hb')
  have hR := (e2.drop (l.toNat * sz)).take ((u.toNat - l.toNat) * sz)
  refine .row _ _ _ _ _ _ hR.1 (by omega) (by omega) (fun hf => ?_) (fun i hi' => ?_) hR.2
  · cases hi with
    | none => simp only [Option.some.injEq, Value.int.injEq] at hhi; omega
    | some _ => simp at hf
  · have hpos : i < (u.toNat - l.toNat) * sz ∧ l.toNat * sz + i < us.length := by simp at hi'; omega
    obtain ⟨q2, q3⟩ := e3 (l.toNat * sz + i) hpos.2
    have hne : m ≠ l.toNat := by
      intro hm
      have : u.toNat - l.toNat = 0 := by omega
      rw [this] at hpos; omega
    refine ⟨ad.add (l.toNat * sz), by rw [if_neg hne], by rw [Addr.block_add]; exact q2, ?_⟩
    rw [Addr.add_add, q3, List.getElem_take, List.getElem_drop]
theorem ok_slice_slc {t : TypeId} {x : Operand} {lo hi : Option Operand} {e : TypeId} {sz b off len cap : Nat} {k1 k2 : IntKind} {l u : Int} (ho : o.op = .slice t x lo hi none) (he : tyElem c.P t = some (none, e))
    (hs : tySize c.P e = some sz) (hx : s.ev x = .slc b off len cap)
    (hlo : (match lo with | some l => (s.ev l).toVal | none => some (.int .i64 0)) = some (.int k1 l))
    (hhi : (match hi with | some h => (s.ev h).toVal | none => some (.int .i64 len)) = some (.int k2 u)) (hb : 0 ≤ l ∧ l ≤ u ∧ u ≤ len ∧ l < cap) :
    EffOk c n s a w β X nb o (.val (.slc b (off + l.toNat * sz) (u.toNat - l.toNat) (cap - l.toNat))) := by
  have hv := ev_rep h x
  rw [hx] at hv
  obtain ⟨e1, e2, e3⟩ := slc_val hv
  have hnd := ev_nd h x b (by rw [hx]; rfl)
  have hrun : (Instr.sliceBounds true len cap (lo.map a.eval) (hi.map a.eval) none).run c.P w = .ok (l.toNat, u.toNat, cap) w := by
    cases hi with
    | none =>
      simp only [Option.some.injEq, Value.int.injEq] at hhi
      have hu : u.toNat = len := by omega
      cases lo with
      | none =>
        simp only [Option.some.injEq, Value.int.injEq] at hlo
        simp [Instr.sliceBounds, ← hlo.2, hu]
      | some lo =>
        have := ev_val h hlo
        simp [Instr.sliceBounds, this, bound_run w hb.1 (show l ≤ (len : Int) by omega), hu]
    | some hi =>
      have hhv := ev_val h hhi
      cases lo with
      | none =>
        simp only [Option.some.injEq, Value.int.injEq] at hlo
        simp [Instr.sliceBounds, hhv, bound_run w (show 0 ≤ u by omega) (show u ≤ (cap : Int) by omega), ← hlo.2]
      | some lo =>
        have := ev_val h hlo
        simp [Instr.sliceBounds, hhv, this, bound_run w (show 0 ≤ u by omega) (show u ≤ (cap : Int) by omega), bound_run w hb.1 (show l ≤ (u.toNat : Int) by omega)]
  have hne : ¬ cap = l.toNat := by omega
  refine .same (v := .slice (some ⟨β b, off + l.toNat * sz, none⟩) (u.toNat - l.toNat) (cap - l.toNat)) ?_ (.slc b _ _ _ (by omega) (by omega)) (fun b' hb' => by simp only [D.ref, Option.some.injEq] at hb'; subst hb'; exact hnd)
  simp [execOp, ho, Instr.sliceAt, run_underlying (elem_slice he), Instr.slice, e1, hrun, size_run w hs, hne, Addr.lit_add]
theorem ok_slice_gsl {t : TypeId} {x : Operand} {lo hi : Option Operand} {e : TypeId} {sz b len size : Nat} {k1 k2 : IntKind} {u : Int} (ho : o.op = .slice t x lo hi none) (he : tyElem c.P t = some (none, e))
    (hs : tySize c.P e = some sz) (hx : s.ev x = .gsl b len size)
    (hlo : (match lo with | some l => (s.ev l).toVal | none => some (.int .i64 0)) = some (.int k1 0))
    (hhi : (match hi with | some h => (s.ev h).toVal | none => some (.int .i64 len)) = some (.int k2 u)) (hb : 0 ≤ u ∧ u ≤ len) :
    EffOk c n s a w β X nb o (.val (.gsl b u.toNat size)) := by
  have hv := ev_rep h x
  rw [hx] at hv
  obtain ⟨cap, e', e1, e2, e3, e4⟩ := gsl_val hv
  have hnd := ev_nd h x b (by rw [hx]; rfl)
  have hrun : (Instr.sliceBounds true len cap (lo.map a.eval) (hi.map a.eval) none).run c.P w = .ok (0, u.toNat, cap) w := by
    cases hi with
    | none =>
      simp only [Option.some.injEq, Value.int.injEq] at hhi
      have hu : u.toNat = len := by omega
      cases lo with
      | none => simp [Instr.sliceBounds, hu]
      | some lo =>
        have := ev_val h hlo
        simp [Instr.sliceBounds, this, bound_run w (Int.le_refl 0) (show (0 : Int) ≤ (len : Int) by omega), hu]
    | some hi =>
      have hhv := ev_val h hhi
      cases lo with
      | none => simp [Instr.sliceBounds, hhv, bound_run w hb.1 (show u ≤ (cap : Int) by omega)]
      | some lo =>
        have := ev_val h hlo
        simp [Instr.sliceBounds, hhv, this, bound_run w hb.1 (show u ≤ (cap : Int) by omega), bound_run w (Int.le_refl 0) (show (0 : Int) ≤ (u.toNat : Int) by omega)]
  refine .same (v := .slice (some ⟨β b, 0, none⟩) u.toNat cap) ?_ (.gsl b _ _ cap e' (by omega) e3 e4) (fun b' hb' => by simp only [D.ref, Option.some.injEq] at hb'; subst hb'; exact hnd)
  have h0 : (⟨β b, 0, none⟩ : Addr).add 0 = ⟨β b, 0, none⟩ := by rw [Addr.lit_add]
  simp [execOp, ho, Instr.sliceAt, run_underlying (elem_slice he), Instr.slice, e1, hrun, size_run w hs, h0]
theorem ok_makeSlice {t : TypeId} {l k : Operand} {e : TypeId} {z : D} {i : TypeInfo} {len cap : Int} (ho : o.op = .makeSlice t l k) (he : tyElem c.P t = some (none, e))
    (hl : (s.ev l).toVal = some (.int .i64 len)) (hk : (s.ev k).toVal = some (.int .i64 cap)) (hz : tyZeros c.P e = some [z]) (hs : tySize c.P e = some 1) (hi : c.P.info? e = some i)
    (hn : len = cap ∧ 0 ≤ len ∧ len * i.bytes ≤ 2 ^ 47 ∧ len ≤ 2 ^ 62) : EffOk c n s a w β X nb o (.new nb (List.replicate len.toNat z) (.slc nb 0 len.toNat len.toNat)) := by
  obtain ⟨rfl, h1, h2, h3⟩ := hn
  unfold tyZeros tyZero at hz
  rw [hi] at hz
  simp only [Option.bind_some] at hz
  cases hzz : i.zero with
  | none => rw [hzz] at hz; cases hz
  | some zv =>
    rw [hzz] at hz
    simp only [Option.map_some, Option.some.injEq] at hz
    have hzrep := reps_ofCell w X zv.cells.toList
    rw [hz] at hzrep
    have hzs : zv.cells.size = 1 := by have := hzrep.1; simpa using this
    have hsz : i.size = 1 := by simpa [tySize, hi] using hs
    have hrep : Reps w X (madeCells zv.cells (len.toNat * i.size)).toList (List.replicate len.toNat z) := by
      refine ⟨by simp [madeCells, hsz], fun j h1 h2 => ?_⟩
      have := hzrep.2 0 (by simp [hzs]) (by simp)
      simp only [madeCells, Array.toList_map, List.getElem_map, Array.toList_range, List.getElem_replicate, hzs, Nat.mod_one]
      rw [getElem!_pos zv.cells 0 (by omega)]
      simpa using this
    have hrun := run_make (P := c.P) w t e i zv (elem_slice he) hi hzz .i64 .i64 len len h1 (Int.le_refl _) (by rw [Int.mul_comm]; omega) (by omega)
    refine ⟨rfl, w, madeCells zv.cells (len.toNat * i.size), e, .slice (some ⟨w.heap.size, 0, none⟩) len.toNat len.toNat, ?_, Below.refl _ _, rfl, by simp [madeCells, hsz], hrep.takeAll, rfl, fun β' w' X' hβ _ => by rw [← hβ]; exact .slc nb 0 _ _ (Nat.le_refl _) (by unfold maxLen; omega)⟩
    simp [execOp, ho, ev_val h hl, ev_val h hk, hrun]
theorem ok_call {k : Call} {x : Operand} {f : FuncId} {fn : Func} (ho : o.op = .call k) (hk : k.callee = .value x) (hx : s.ev x = .lit (.func (.func f) #[] #[])) (hf : c.P.funcs[f]? = some fn)
    (hb : fn.body.isSome = true) (hn : (fn.name == "runtime.NumGoroutine") = false) :
    EffOk c n s a w β X nb o (.call f (k.args.toList.map s.ev)) := by
  have hv : a.eval x = .func (.func f) #[] #[] := ev_val h (by rw [hx]; rfl)
  refine ⟨k.args.toList.map a.eval, ?_, by simp, fun i h1 h2 => by simpa using ev_rep h _, fun d hd b hb => ?_⟩
  · have hb' : fn.body ≠ none := by intro e; rw [e] at hb; cases hb
    have hn' : fn.name ≠ "runtime.NumGoroutine" := by simpa using hn
    have hargs : (k.args.toList.map a.eval).toArray = k.args.map a.eval := by apply Array.toList_inj.1; simp
    rw [hargs]
    simp [execOp, ho, resolve, hk, hv, Deferred.ofValue, invoke, callFunc, program, Sem.run, hf, hn', hb']
  · obtain ⟨x, _, rfl⟩ := List.mem_map.1 hd
    exact ev_nd h x b hb
theorem ok_len_row {k : Call} {x : Operand} {t : TypeId} {e : TypeId} {len : Nat} {full : Bool} {xs : List D} (ho : o.op = .call k) (hk : k.callee = .builtin .len) (ha : k.args.toList = [x]) (ht : k.argTypes.toList = [t])
    (he : tyElem c.P t = some (none, e)) (hx : s.ev x = .row len full xs) : EffOk c n s a w β X nb o (.val (.lit (.int .i64 len))) := by
  have hv := ev_rep h x
  rw [hx] at hv
  obtain ⟨ad, cap, us, e1, _⟩ := row_val (hv.pure rfl)
  have ha' : k.args = #[x] := by apply Array.toList_inj.1; simpa using ha
  have ht' : k.argTypes = #[t] := by apply Array.toList_inj.1; simpa using ht
  refine .lit ?_
  simp [execOp, ho, resolve, hk, invoke, builtin, Builtin.len_, ha', ht', e1, run_underlying (elem_slice he), goInt]
theorem ok_len_slc {k : Call} {x : Operand} {t : TypeId} {e : TypeId} {b off len cap : Nat} (ho : o.op = .call k) (hk : k.callee = .builtin .len) (ha : k.args.toList = [x]) (ht : k.argTypes.toList = [t])
    (he : tyElem c.P t = some (none, e)) (hx : s.ev x = .slc b off len cap) : EffOk c n s a w β X nb o (.val (.lit (.int .i64 len))) := by
  have hv := ev_rep h x
  rw [hx] at hv
  obtain ⟨e1, _⟩ := slc_val hv
  have ha' : k.args = #[x] := by apply Array.toList_inj.1; simpa using ha
  have ht' : k.argTypes = #[t] := by apply Array.toList_inj.1; simpa using ht
  refine .lit ?_
  simp [execOp, ho, resolve, hk, invoke, builtin, Builtin.len_, ha', ht', e1, run_underlying (elem_slice he), goInt]
theorem ok_len_gsl {k : Call} {x : Operand} {t : TypeId} {e : TypeId} {b len sz : Nat} (ho : o.op = .call k) (hk : k.callee = .builtin .len) (ha : k.args.toList = [x]) (ht : k.argTypes.toList = [t])
    (he : tyElem c.P t = some (none, e)) (hx : s.ev x = .gsl b len sz) : EffOk c n s a w β X nb o (.val (.lit (.int .i64 len))) := by
  have hv := ev_rep h x
  rw [hx] at hv
  obtain ⟨cap, e', e1, _⟩ := gsl_val hv
  have ha' : k.args = #[x] := by apply Array.toList_inj.1; simpa using ha
  have ht' : k.argTypes = #[t] := by apply Array.toList_inj.1; simpa using ht
  refine .lit ?_
  simp [execOp, ho, resolve, hk, invoke, builtin, Builtin.len_, ha', ht', e1, run_underlying (elem_slice he), goInt]
theorem ok_len_lit {k : Call} {x : Operand} {v r : Value} (ho : o.op = .call k) (hk : k.callee = .builtin .len) (ha : k.args.toList = [x]) (hx : (s.ev x).toVal = some v)
    (hr : pureRun c.P (Builtin.len_ k.argTypes o.type #[v]) = some r) : EffOk c n s a w β X nb o (.val (.lit r)) := by
  have ha' : k.args = #[x] := by apply Array.toList_inj.1; simpa using ha
  refine .lit ?_
  simp [execOp, ho, resolve, hk, invoke, builtin, ha', ev_val h hx, pureRun_run hr w]
theorem lits_val {l : List Operand} {vs : List Value} (e : D.toLits (l.map s.ev) = some vs) : l.map a.eval = vs := by
  induction l generalizing vs with
  | nil => simp only [List.map_nil, D.toLits, Option.some.injEq] at e; rw [← e]; rfl
  | cons x l ih =>
    simp only [List.map_cons, D.toLits] at e
    split at e
    · rename_i v vs' e1 e2
      simp only [Option.some.injEq] at e
      subst e
      have : (s.ev x).toVal = some v := by cases hx : s.ev x <;> rw [hx] at e1 <;> simp [D.toLit, D.toVal] at e1 ⊢; exact e1
      rw [List.map_cons, ih e2, ev_val h this]
    · cases e
theorem ok_max {k : Call} {vs : List Value} {r : Value} (ho : o.op = .call k) (hk : k.callee = .builtin .max) (ha : D.toLits (k.args.toList.map s.ev) = some vs)
    (hr : pureRun c.P (Builtin.max_ k.argTypes o.type vs.toArray) = some r) : EffOk c n s a w β X nb o (.val (.lit r)) := by
  have hargs : k.args.map a.eval = vs.toArray := by apply Array.toList_inj.1; simpa using lits_val h ha
  refine .lit ?_
  simp [execOp, ho, resolve, hk, invoke, builtin, hargs, pureRun_run hr w]
theorem ok_min {k : Call} {vs : List Value} {r : Value} (ho : o.op = .call k) (hk : k.callee = .builtin .min) (ha : D.toLits (k.args.toList.map s.ev) = some vs)
    (hr : pureRun c.P (Builtin.min_ k.argTypes o.type vs.toArray) = some r) : EffOk c n s a w β X nb o (.val (.lit r)) := by
  have hargs : k.args.map a.eval = vs.toArray := by apply Array.toList_inj.1; simpa using lits_val h ha
  refine .lit ?_
  simp [execOp, ho, resolve, hk, invoke, builtin, hargs, pureRun_run hr w]
theorem ok_append_row {k : Call} {x y : Operand} {t e : TypeId} {i : TypeInfo} {z : Value} {p q : Nat} {full : Bool} {xs ys : List D} (ho : o.op = .call k) (hk : k.callee = .builtin .append) (ha : k.args.toList = [x, y]) (ht : k.argTypes.toList = [t, t])
    (he : tyElem c.P t = some (none, e)) (hi : c.P.info? e = some i) (hz : i.zero = some z) (hzs : z.cells.size = i.size) (h0 : 0 < i.size) (hx : s.ev x = .row p true xs) (hy : s.ev y = .row q full ys)
    (hn : xs.length = p * i.size ∧ ys.length = q * i.size ∧ p + q ≤ 2 ^ 62 ∧ (p + q) * i.bytes ≤ 2 ^ 47) : EffOk c n s a w β X nb o (.val (.row (p + q) false (xs ++ ys))) := by
  have hvx := ev_rep h x
  rw [hx] at hvx
  have hvy := ev_rep h y
  rw [hy] at hvy
  by_cases hq : 0 < q
  · obtain ⟨us, cap, hr, h1, h2, h3, h4, h5⟩ := append_fresh (ty := o.type) (elem_slice he) hi hz hzs h0 (hvx.pure rfl) (hvy.pure rfl) hq hn
    have hb : Below w.heap.size w (w.drew.alloc (.cells us e)) := ((Below.refl _ _).drew).alloc (Nat.le_refl _) _
    have hr2 := h5.mono (stays_below (X := X) hb)
    refine ⟨_, _, append_exec ho hk ha ht hr, hb, .p (.row _ _ _ _ _ _ hr2.1 h1 h2 (fun h => by cases h) (fun i hi => ⟨_, rfl, fun hx => absurd (h.Xlt _ hx) (by simp), ?_⟩) hr2.2), fun b' hb' => by simp [D.ref] at hb'⟩
    rw [Addr.lit_add, Nat.zero_add]
    have := cell_of_row _ w.heap.size i _ e (0, 0) (heap_alloc_new w.drew (.cells us e))
    refine this.trans ?_
    simp at hi
    have hlt : i < us.size := by simp at h4; omega
    simp [hlt]
  · have hq0 : q = 0 := by omega
    subst hq0
    obtain ⟨ad, cap, us, e1, e2, e3, e4, e5, e6⟩ := row_val (hvx.pure rfl)
    obtain ⟨ad', cap', us', f1, f2, f3, f4, f5, f6⟩ := row_val (hvy.pure rfl)
    obtain rfl := e4 rfl
    have hys : ys = [] := List.eq_nil_of_length_eq_zero (by omega)
    subst hys
    rw [List.append_nil, Nat.add_zero]
    refine .same (v := .slice ad cap cap) (append_exec ho hk ha ht ?_) (.p (.row ad cap cap false us xs e5.1 (Nat.le_refl _) e3 (fun h => by cases h) e6 e5.2)) (fun b' hb' => by simp [D.ref] at hb')
    rw [e1, f1]
    cases ad with
    | none => cases ad' <;> simp [Builtin.append_, run_underlying (elem_slice he), Go.sizeOf, typeInfo, hi, Builtin.lenOf, Builtin.firstCells, loadCells, loadCellsFrom]
    | some a1 => cases ad' <;> simp [Builtin.append_, run_underlying (elem_slice he), Go.sizeOf, typeInfo, hi, Builtin.lenOf, Builtin.firstCells, loadCells, loadCellsFrom, storeCells]
theorem ok_append_new {k : Call} {x y : Operand} {t e : TypeId} {i : TypeInfo} {z : Value} {p q : Nat} {full : Bool} {xs ys : List D} (ho : o.op = .call k) (hk : k.callee = .builtin .append) (ha : k.args.toList = [x, y]) (ht : k.argTypes.toList = [t, t])
    (he : tyElem c.P t = some (none, e)) (hi : c.P.info? e = some i) (hz : i.zero = some z) (hzs : z.cells.size = i.size) (h0 : 0 < i.size) (hx : s.ev x = .row p true xs) (hy : s.ev y = .row q full ys)
    (hn : 0 < q ∧ xs.length = p * i.size ∧ ys.length = q * i.size ∧ p + q ≤ 2 ^ 62 ∧ (p + q) * i.bytes ≤ 2 ^ 47) : EffOk c n s a w β X nb o (.new nb (xs ++ ys) (.gsl nb (p + q) i.size)) := by
  have hvx := ev_rep h x
  rw [hx] at hvx
  have hvy := ev_rep h y
  rw [hy] at hvy
  obtain ⟨us, cap, hr, h1, h2, h3, h4, h5⟩ := append_fresh (ty := o.type) (elem_slice he) hi hz hzs h0 (hvx.pure rfl) (hvy.pure rfl) hn.1 hn.2
  refine ⟨rfl, w.drew, us, e, _, append_exec ho hk ha ht hr, (Below.refl _ _).drew, rfl, h4, h5, rfl, fun β' w' X' hβ hsh => ?_⟩
  rw [← hβ]
  exact .gsl nb _ _ cap e h1 h2 (by rw [hβ, ← h3]; exact hsh)
theorem ok_append_grow {k : Call} {x y : Operand} {t e : TypeId} {i : TypeInfo} {z : Value} {b p q : Nat} {full : Bool} {cs ys : List D} (ho : o.op = .call k) (hk : k.callee = .builtin .append) (ha : k.args.toList = [x, y]) (ht : k.argTypes.toList = [t, t])
    (he : tyElem c.P t = some (none, e)) (hi : c.P.info? e = some i) (hz : i.zero = some z) (hzs : z.cells.size = i.size) (h0 : 0 < i.size) (hx : s.ev x = .gsl b p i.size) (hy : s.ev y = .row q full ys) (hb : s.blk b = some cs) (hgb : c.gb ≤ b)
    (hok : ys.all D.cellOk = true)
    (hn : 0 < q ∧ cs.length = p * i.size ∧ ys.length = q * i.size ∧ p + q ≤ 2 ^ 62 ∧ (p + q) * i.bytes ≤ 2 ^ 47) : EffOk c n s a w β X nb o (.grow b (cs ++ ys) (.gsl b (p + q) i.size)) := by
  obtain ⟨hq, hn1, hn2, hn3, hn4⟩ := hn
  have hvx := ev_rep h x
  rw [hx] at hvx
  have hvy := ev_rep h y
  rw [hy] at hvy
  obtain ⟨cap, e', e1, e2, e3, e4⟩ := gsl_val hvx
  obtain ⟨a', cap', us', f1, hul', f5, hnews⟩ := news_cells (hvy.pure rfl) hn2 hq h0
  obtain ⟨g1, g2, us, eb, g3, g4, g5⟩ := h.blk b cs hb
  have hus : us.size = cap * i.size := by
    have := shape_of_cells g3
    rw [e4] at this
    simp only [Option.some.injEq, Prod.mk.injEq] at this
    exact this.2.symm
  have hone : ∀ u ∈ us', u.oneCell' = true := by
    intro v hv
    obtain ⟨j, hj, rfl⟩ := List.mem_iff_getElem.1 hv
    have h2 : j < ys.length := by rw [← f5.1]; exact hj
    exact cellOk_one (f5.2 j hj h2) (List.all_eq_true.1 hok _ (List.getElem_mem h2))
  have hcl := h.clear b
  have hcb : (s.clear b).blk b = some cs := hb
  by_cases hroom : p + q ≤ cap
  · have hfit : p * i.size + us'.length ≤ us.size := by rw [hul', hus, ← Nat.add_mul]; exact Nat.mul_le_mul_right _ hroom
    have hr := run_append_spare (P := c.P) w t o.type e eb i (elem_slice he) hi (β b) p cap us g3 a' q cap' us' hul' hnews hone hroom hfit
    have hsz : (us.toList.take (p * i.size) ++ us' ++ us.toList.drop (p * i.size + us'.length)).toArray.size = us.size := by
      simp only [List.size_toArray, List.length_append, List.length_take, List.length_drop, Array.length_toList]
      omega
    have hlen : (cs ++ ys).length = p * i.size + us'.length := by rw [List.length_append, hn1, ← f5.1]
    have hst := hcl.store b cs (cs ++ ys) hcb us _ eb g3 hsz (by rw [hsz, hlen]; exact hfit) (by
      have e5 := splice_take us.toList us' (p * i.size) (p * i.size + us'.length) (Nat.le_refl _) (by simpa using hfit)
      have e6 : (us.toList.take (p * i.size) ++ us' ++ us.toList.drop (p * i.size + us'.length)).toArray.toList.take (cs ++ ys).length =
          (us.toList.take (p * i.size) ++ us' ++ us.toList.drop (p * i.size + us'.length)).take (p * i.size + us'.length) := by rw [hlen]
      rw [e6, e5]
      have e7 : (us.toList.take (p * i.size + us'.length)).drop (p * i.size + us'.length) = [] := by simp
      have e8 : (us.toList.take (p * i.size + us'.length)).take (p * i.size) = us.toList.take cs.length := by rw [List.take_take, hn1]; congr 1; omega
      rw [e7, e8, List.append_nil]
      exact g5.append f5)
    refine ⟨_, _, β, X, append_exec ho hk ha ht (by rw [e1, f1]; exact hr), hst, .gsl b _ _ cap eb hroom e3 ?_, rfl⟩
    rw [← hus, ← hsz]
    exact shape_of_cells (setRow_heap w (β b) us _ eb (0, 0) g3)
  · have holds : ∀ j v, (us.toList.take cs.length)[j]? = some v → w.cell? ((⟨β b, 0, none⟩ : Addr).add j) = some v := by
      intro j v hj
      rw [Addr.lit_add, Nat.zero_add, cell_of_row w _ _ us eb (0, 0) g3]
      rw [List.getElem?_take] at hj
      split at hj
      · simpa using hj
      · cases hj
    have hol : (us.toList.take cs.length).length = p * i.size := by rw [g5.1]; exact hn1
    have hby : (p + q) * i.bytes ≤ 140737488355328 := by
      have h47 : (2:Nat) ^ 47 = 140737488355328 := by decide
      omega
    have hr := run_append_grow (P := c.P) w t o.type e i z (elem_slice he) hi hz ⟨β b, 0, none⟩ p cap _ hol holds a' q cap' us' hul' hnews (by omega) (by omega) (growslice_fits (by omega) hby)
    have hge := grownCap_ge w (p + q) cap e
    have hcm : grownCap w (p + q) cap e ≤ maxLen := grownCap_le_maxLen _ _ _ _ (by unfold maxLen; omega)
    generalize hG : grownCap w (p + q) cap e = G at *
    have hl2 : (cs ++ ys).length = (us.toList.take cs.length ++ us').length := by rw [List.length_append, List.length_append, g5.1, f5.1]
    have hsz2 : ((us.toList.take cs.length).toArray ++ us'.toArray ++ Builtin.zeroCells z.cells (G - (p + q))).size = G * i.size := by
      simp only [Array.size_append, List.size_toArray, size_zeroCells, hzs, hol, hul', ← Nat.add_mul]
      congr 1; omega
    have hdr : Below w.heap.size w w.drew := (Below.refl _ _).drew
    have hmv := (hcl.grow hdr).moved b hgb (fun t => by
      show (if (s.tmp t).ref = some b then D.any else s.tmp t).ref ≠ some b
      split
      · simp [D.ref]
      · assumption) e ((us.toList.take cs.length).toArray ++ us'.toArray ++ Builtin.zeroCells z.cells (G - (p + q))) (cs ++ ys) (by
        rw [hl2]; simp) (by
        rw [hl2]
        have : ((us.toList.take cs.length).toArray ++ us'.toArray ++ Builtin.zeroCells z.cells (G - (p + q))).toList.take (us.toList.take cs.length ++ us').length = us.toList.take cs.length ++ us' := by
          simp only [Array.toList_append, List.append_assoc]
          rw [← List.append_assoc, List.take_left]
        rw [this]
        exact (g5.append f5).mono (stays_below hdr))
    refine ⟨_, _, _, _, append_exec ho hk ha ht (by rw [e1, f1]; exact hr), hmv, ?_, rfl⟩
    have := RepV.gsl (β := fun k => if k = b then w.drew.heap.size else β k) (w := w.drew.alloc (.cells ((us.toList.take cs.length).toArray ++ us'.toArray ++ Builtin.zeroCells z.cells (G - (p + q))) e)) (X := fun k => X k ∨ k = w.drew.heap.size) b (p + q) i.size G e hge hcm (by
      simp only [if_true]
      rw [← hsz2]
      exact shape_of_cells (heap_alloc_new w.drew _))
    simpa using this
end ops
end Lw
