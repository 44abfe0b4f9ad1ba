/- The abstract data of the framework, what it means in a world, and the relation between an abstract frame and a concrete one. No condition. -/
import Derived.Orders
import Derived.Below
import Derived.Laws.CopyRow
import Derived.Laws.Rows
import Derived.Laws.Tables
import Derived.Laws.Cells
import Derived.Laws.AppendOwn
import Derived.Great.Frames
namespace Lw
open Go Go.RowKit

/-- Abstract data. any: nothing is known; lit: this very value; row: a slice whose cells stay as they are; agg: a struct or array by value; tup: a tuple; rptr: a pointer to cells that stay as they are; ptr: a pointer into an own block; slc: a slice over an own block; gsl: a slice at the head of an own block, its capacity not known. -/
inductive D where
  | any
  | lit (v : Value)
  | row (len : Nat) (full : Bool) (xs : List D)
  | agg (xs : List D)
  | tup (xs : List D)
  | rptr (xs : List D)
  | ptr (b off : Nat)
  | slc (b off len cap : Nat)
  | gsl (b n size : Nat)
  deriving Inhabited

/-- What abstract data says of a value in a world; X: the blocks that may still be written, no cell of the data lies in them. -/
inductive RepP (w : World) (X : Nat → Prop) : Value → D → Prop
  | any (v : Value) : RepP w X v .any
  | lit (v : Value) : RepP w X v (.lit v)
  | row (a : Option Addr) (len cap : Nat) (full : Bool) (us : List Value) (xs : List D)
      (hl : us.length = xs.length) (hlen : len ≤ cap) (hcap : cap ≤ maxLen) (hf : full = true → cap = len)
      (hm : ∀ i (h : i < us.length), ∃ a', a = some a' ∧ ¬ X a'.block ∧ w.cell? (a'.add i) = some us[i])
      (hr : ∀ i (h : i < us.length) (h' : i < xs.length), RepP w X us[i] xs[i]) : RepP w X (.slice a len cap) (.row len full xs)
  | rptr (a : Addr) (us : List Value) (xs : List D) (hl : us.length = xs.length)
      (hm : ∀ i (h : i < us.length), ¬ X a.block ∧ w.cell? (a.add i) = some us[i])
      (hr : ∀ i (h : i < us.length) (h' : i < xs.length), RepP w X us[i] xs[i]) : RepP w X (.pointer (some a)) (.rptr xs)
  | agg (us : List Value) (xs : List D) (hl : us.length = xs.length)
      (hr : ∀ i (h : i < us.length) (h' : i < xs.length), RepP w X us[i] xs[i]) : RepP w X (.agg us.toArray) (.agg xs)
  | tup (us : List Value) (xs : List D) (hl : us.length = xs.length)
      (hr : ∀ i (h : i < us.length) (h' : i < xs.length), RepP w X us[i] xs[i]) : RepP w X (.tuple us.toArray) (.tup xs)

theorem RepP.mono {w w' : World} {X X' : Nat → Prop} (h : ∀ a u, w.cell? a = some u → ¬ X a.block → w'.cell? a = some u ∧ ¬ X' a.block)
    {v : Value} {d : D} (hr : RepP w X v d) : RepP w' X' v d := by
  induction hr with
  | any v => exact .any v
  | lit v => exact .lit v
  | row a len cap full us xs hl hlen hcap hf hm _ ih =>
    refine .row a len cap full us xs hl hlen hcap hf (fun i hi => ?_) ih
    obtain ⟨a', ha, hx, hc⟩ := hm i hi
    have hb : (a'.add i).block = a'.block := by unfold Addr.add; split <;> rfl
    have := h (a'.add i) _ hc (by rw [hb]; exact hx)
    exact ⟨a', ha, by rw [hb] at this; exact this.2, this.1⟩
  | rptr a us xs hl hm _ ih =>
    refine .rptr a us xs hl (fun i hi => ?_) ih
    obtain ⟨hx, hc⟩ := hm i hi
    have hb : (a.add i).block = a.block := by unfold Addr.add; split <;> rfl
    have := h (a.add i) _ hc (by rw [hb]; exact hx)
    exact ⟨by rw [hb] at this; exact this.2, this.1⟩
  | agg us xs hl _ ih => exact .agg us xs hl ih
  | tup us xs hl _ ih => exact .tup us xs hl ih

/-- A list of values against a list of abstract data. -/
def Reps (w : World) (X : Nat → Prop) (us : List Value) (xs : List D) : Prop :=
  us.length = xs.length ∧ ∀ i (h : i < us.length) (h' : i < xs.length), RepP w X us[i] xs[i]

theorem Reps.nil {w : World} {X : Nat → Prop} : Reps w X [] [] := ⟨rfl, fun i h => absurd h (by simp)⟩
theorem Reps.cons {w : World} {X : Nat → Prop} {u : Value} {x : D} {us : List Value} {xs : List D} (h : RepP w X u x) (hs : Reps w X us xs) : Reps w X (u :: us) (x :: xs) := by
  refine ⟨by simp [hs.1], fun i h1 h2 => ?_⟩
  cases i with
  | zero => exact h
  | succ i => exact hs.2 i (by simpa using h1) (by simpa using h2)
theorem Reps.head {w : World} {X : Nat → Prop} {u : Value} {x : D} {us : List Value} {xs : List D} (h : Reps w X (u :: us) (x :: xs)) : RepP w X u x := h.2 0 (by simp) (by simp)
theorem Reps.tail {w : World} {X : Nat → Prop} {u : Value} {x : D} {us : List Value} {xs : List D} (h : Reps w X (u :: us) (x :: xs)) : Reps w X us xs :=
  ⟨by simpa using h.1, fun i h1 h2 => by have := h.2 (i + 1) (by simpa using h1) (by simpa using h2); simpa using this⟩
theorem Reps.mono {w w' : World} {X X' : Nat → Prop} (h : ∀ a u, w.cell? a = some u → ¬ X a.block → w'.cell? a = some u ∧ ¬ X' a.block)
    {us : List Value} {xs : List D} (hr : Reps w X us xs) : Reps w' X' us xs := ⟨hr.1, fun i h1 h2 => (hr.2 i h1 h2).mono h⟩
theorem Reps.append {w : World} {X : Nat → Prop} {us us' : List Value} {xs xs' : List D} (h : Reps w X us xs) (h' : Reps w X us' xs') : Reps w X (us ++ us') (xs ++ xs') := by
  refine ⟨by simp [h.1, h'.1], fun i h1 h2 => ?_⟩
  by_cases hi : i < us.length
  · rw [List.getElem_append_left hi, List.getElem_append_left (by rw [← h.1]; exact hi)]; exact h.2 i hi (by rw [← h.1]; exact hi)
  · rw [List.getElem_append_right (by omega), List.getElem_append_right (by rw [← h.1]; omega)]
    have e : i - xs.length = i - us.length := by rw [h.1]
    have h3 : i - us.length < us'.length := by simp at h1; omega
    have := h'.2 (i - us.length) h3 (by rw [← h'.1]; exact h3)
    simp only [e]; exact this
theorem Reps.drop {w : World} {X : Nat → Prop} {us : List Value} {xs : List D} (h : Reps w X us xs) (n : Nat) : Reps w X (us.drop n) (xs.drop n) := by
  refine ⟨by simp [h.1], fun i h1 h2 => ?_⟩
  rw [List.getElem_drop, List.getElem_drop]; exact h.2 _ (by simp at h1; omega) (by simp at h2; omega)
theorem Reps.take {w : World} {X : Nat → Prop} {us : List Value} {xs : List D} (h : Reps w X us xs) (n : Nat) : Reps w X (us.take n) (xs.take n) := by
  refine ⟨by simp [h.1], fun i h1 h2 => ?_⟩
  rw [List.getElem_take, List.getElem_take]; exact h.2 _ (by simp at h1; omega) (by simp at h2; omega)

/-- With the own blocks: β tells where an own block lies. -/
inductive RepV (β : Nat → Nat) (w : World) (X : Nat → Prop) : Value → D → Prop
  | p {v : Value} {d : D} (h : RepP w X v d) : RepV β w X v d
  | ptr (b off : Nat) : RepV β w X (.pointer (some ⟨β b, off, none⟩)) (.ptr b off)
  | slc (b off len cap : Nat) (h1 : len ≤ cap) (h2 : cap ≤ maxLen) : RepV β w X (.slice (some ⟨β b, off, none⟩) len cap) (.slc b off len cap)
  | gsl (b n size cap : Nat) (e : TypeId) (h1 : n ≤ cap) (h2 : cap ≤ maxLen) (h3 : w.shape? (β b) = some (e, cap * size)) : RepV β w X (.slice (some ⟨β b, 0, none⟩) n cap) (.gsl b n size)

/-- No row of cells has changed its type or its size. -/
def Shapes (w w' : World) : Prop := ∀ k sh, w.shape? k = some sh → w'.shape? k = some sh

theorem RepV.mono {β : Nat → Nat} {w w' : World} {X X' : Nat → Prop} (h : ∀ a u, w.cell? a = some u → ¬ X a.block → w'.cell? a = some u ∧ ¬ X' a.block) (hsh : Shapes w w')
    {v : Value} {d : D} (hr : RepV β w X v d) : RepV β w' X' v d := by
  cases hr with
  | p hp => exact .p (hp.mono h)
  | ptr b off => exact .ptr b off
  | slc b off len cap h1 h2 => exact .slc b off len cap h1 h2
  | gsl b n size cap e h1 h2 h3 => exact .gsl b n size cap e h1 h2 (hsh _ _ h3)

/-- The own block that abstract data points into. -/
def D.ref : D → Option Nat
  | .ptr b _ => some b
  | .slc b _ _ _ => some b
  | .gsl b _ _ => some b
  | _ => none
theorem RepV.pure {β : Nat → Nat} {w : World} {X : Nat → Prop} {v : Value} {d : D} (h : RepV β w X v d) (hd : d.ref = none) : RepP w X v d := by
  cases h with
  | p h => exact h
  | ptr => simp [D.ref] at hd
  | slc => simp [D.ref] at hd
  | gsl => simp [D.ref] at hd
/-- Only the place of the block that is pointed into matters. -/
theorem RepV.congr {β β' : Nat → Nat} {w : World} {X : Nat → Prop} {v : Value} {d : D} (h : RepV β w X v d) (hb : ∀ b, d.ref = some b → β' b = β b) : RepV β' w X v d := by
  cases h with
  | p h => exact .p h
  | ptr b off => rw [← hb b rfl]; exact .ptr b off
  | slc b off len cap h1 h2 => rw [← hb b rfl]; exact .slc b off len cap h1 h2
  | gsl b n size cap e h1 h2 h3 => rw [← hb b rfl]; exact .gsl b n size cap e h1 h2 (by rw [hb b rfl]; exact h3)

/-- An abstract frame as functions. -/
structure FS where
  tmp : Nat → D
  blk : Nat → Option (List D)

structure Ctx where
  P : Program
  Good : World → Prop
  F : Nat → Prop
  w0 : World
  gh : List (Value × D)
  gb : Nat

/-- The relation between an abstract frame and a concrete one, β and X given (gh: what waits outside this frame; it points into own blocks below gb alone). The cells of own blocks hold no pointers into own blocks. -/
structure RelB (c : Ctx) (n : Nat) (s : FS) (a : Act) (w : World) (β : Nat → Nat) (X : Nat → Prop) : Prop where
  defers : a.defers = []
  size : a.tmps.size = n
  tmp : ∀ t, RepV β w X (a.tmps.getD t undef) (s.tmp t)
  nd : ∀ t b, (s.tmp t).ref = some b → (s.blk b).isSome = true
  blk : ∀ b cs, s.blk b = some cs → c.w0.heap.size ≤ β b ∧ X (β b) ∧ ∃ us e, w.heap[β b]? = some (.cells us e (0, 0)) ∧ cs.length ≤ us.size ∧ Reps w X (us.toList.take cs.length) cs
  inj : ∀ b b', (s.blk b).isSome = true → (s.blk b').isSome = true → β b = β b' → b = b'
  F : ∀ k, c.F k → X k
  Flt : ∀ k, c.F k → k < c.w0.heap.size
  Xlt : ∀ k, X k → k < w.heap.size
  below : Below c.w0.heap.size c.w0 w
  gh : ∀ p ∈ c.gh, RepV β w X p.1 p.2
  ghnd : ∀ p ∈ c.gh, ∀ b, p.2.ref = some b → b < c.gb ∧ (s.blk b).isSome = true

def Rel (c : Ctx) (n : Nat) (s : FS) (a : Act) (w : World) : Prop := ∃ β X, RelB c n s a w β X

/-- What is asked of 'Good': it stays where no block that was there is written. -/
def Steady (Good : World → Prop) : Prop := ∀ w w', Below w.heap.size w w' → Good w → Good w'

/-- Called with arguments that read so, the function returns what reads so; nothing that was there is written; what it returns avoids whatever the arguments avoid. -/
def Spec (P : Program) (Good : World → Prop) (f : FuncId) (args : List D) (r : D) : Prop :=
  ∀ (w : World) (F : Nat → Prop) (vals : List Value), Good w → Reps w F vals args → (∀ k, F k → k < w.heap.size) →
    Calls P f vals.toArray w fun e w' => ∃ v, e = .returned v ∧ RepP w' F v r ∧ Below w.heap.size w w' ∧ Good w'

/-- The same where what comes back is a slice over all of a new row of cells that nobody else knows. -/
def SpecN (P : Program) (Good : World → Prop) (f : FuncId) (args : List D) (n : Nat) (cs : List D) : Prop :=
  ∀ (w : World) (F : Nat → Prop) (vals : List Value), Good w → Reps w F vals args → (∀ k, F k → k < w.heap.size) →
    Calls P f vals.toArray w fun e w' => ∃ k us ty, e = .returned (.slice (some ⟨k, 0, none⟩) n n) ∧ n ≤ maxLen ∧ w.heap.size ≤ k ∧ w'.heap[k]? = some (.cells us ty (0, 0)) ∧ cs.length ≤ us.size ∧
      Reps w' (fun j => F j ∨ j = k) (us.toList.take cs.length) cs ∧ Below w.heap.size w w' ∧ Good w'

theorem Addr.block_add (a : Addr) (n : Nat) : (a.add n).block = a.block := by unfold Addr.add; split <;> rfl
theorem Addr.add_add (a : Addr) (m n : Nat) : (a.add m).add n = a.add (m + n) := by
  unfold Addr.add
  by_cases hm : m = 0
  · subst hm; simp
  · by_cases hn : n = 0
    · subst hn; simp [hm]
    · simp [hm, hn]; omega
theorem Addr.lit_add (b o n : Nat) : (⟨b, o, none⟩ : Addr).add n = ⟨b, o + n, none⟩ := by
  unfold Addr.add; split <;> simp_all

theorem cell_lt {w : World} {a : Addr} {u : Value} (h : w.cell? a = some u) : a.block < w.heap.size := World.block_lt_of_cell? w a h

/-- Below the heap's size all cells stay. -/
theorem stays_below {w w' : World} {X : Nat → Prop} (hb : Below w.heap.size w w') :
    ∀ a u, w.cell? a = some u → ¬ X a.block → w'.cell? a = some u ∧ ¬ X a.block := fun a u h hx => by
  have := hb.cell (p := a) (cell_lt h)
  exact ⟨by rw [this]; exact h, hx⟩
theorem stays_below_new {w w' : World} {X : Nat → Prop} (hb : Below w.heap.size w w') {k : Nat} (hk : w.heap.size ≤ k) :
    ∀ a u, w.cell? a = some u → ¬ X a.block → w'.cell? a = some u ∧ ¬ (X a.block ∨ a.block = k) := fun a u h hx => by
  have h2 := cell_lt h
  refine ⟨(stays_below (X := X) hb a u h hx).1, ?_⟩
  rintro (h1 | h1)
  · exact hx h1
  · omega

theorem RelB.good {c : Ctx} {n : Nat} {s : FS} {a : Act} {w : World} {β : Nat → Nat} {X : Nat → Prop} (h : RelB c n s a w β X) (hG : Steady c.Good) (h0 : c.Good c.w0) : c.Good w := hG _ _ h.below h0

theorem shape_of_cells {w : World} {k : Nat} {us : Array Value} {e : TypeId} {fr : Nat × Nat} (h : w.heap[k]? = some (.cells us e fr)) : w.shape? k = some (e, us.size) := by
  simp [World.shape?, h]
theorem cells_of_shape {w : World} {k : Nat} {e : TypeId} {m : Nat} (h : w.shape? k = some (e, m)) : ∃ us fr, w.heap[k]? = some (.cells us e fr) ∧ us.size = m := by
  unfold World.shape? at h
  split at h
  · rename_i us e' fr hk
    simp only [Option.some.injEq, Prod.mk.injEq] at h
    obtain ⟨rfl, rfl⟩ := h
    exact ⟨us, fr, hk, rfl⟩
  · cases h
theorem shapes_below {w w' : World} (hb : Below w.heap.size w w') : Shapes w w' := fun k sh h => by
  obtain ⟨e, m⟩ := sh
  obtain ⟨us, fr, hk, rfl⟩ := cells_of_shape h
  have := hb.block k (Array.getElem?_eq_some_iff.1 hk).1
  rw [hk] at this
  exact shape_of_cells this
theorem shapes_setRow {w : World} {g : Nat} {us us' : Array Value} {e : TypeId} (hu : w.heap[g]? = some (.cells us e (0, 0))) (hs : us'.size = us.size) : Shapes w (w.setRow g us') := fun k sh h => by
  obtain ⟨e', m⟩ := sh
  obtain ⟨us2, fr, hk, rfl⟩ := cells_of_shape h
  by_cases hkg : k = g
  · subst hkg
    rw [hu] at hk
    cases hk
    have := setRow_heap w k us us' e (0, 0) hu
    rw [shape_of_cells this, hs]
  · have := setRow_other w g k us' hkg
    rw [hk] at this
    exact shape_of_cells this

/-- A step of the world that leaves all that was there: the relation stays. -/
theorem RelB.grow {c : Ctx} {n : Nat} {s : FS} {a : Act} {w w' : World} {β : Nat → Nat} {X : Nat → Prop} (h : RelB c n s a w β X)
    (hb : Below w.heap.size w w') : RelB c n s a w' β X where
  defers := h.defers
  size := h.size
  tmp := fun t => (h.tmp t).mono (stays_below hb) (shapes_below hb)
  nd := h.nd
  blk := fun b cs hs => by
    obtain ⟨h1, h2, us, e, h3, h4, h5⟩ := h.blk b cs hs
    refine ⟨h1, h2, us, e, ?_, h4, h5.mono (stays_below hb)⟩
    rw [hb.block (β b) (Array.getElem?_eq_some_iff.1 h3).1]; exact h3
  inj := h.inj
  F := h.F
  Flt := h.Flt
  Xlt := fun k hk => Nat.lt_of_lt_of_le (h.Xlt k hk) hb.size
  below := h.below.trans (hb.mono h.below.size)
  gh := fun p hp => (h.gh p hp).mono (stays_below hb) (shapes_below hb)
  ghnd := h.ghnd

theorem put_getD_same {a : Act} {k : Nat} {v : Value} (h : k < a.tmps.size) : (a.put (some k) v).tmps.getD k undef = v := by
  have := Act.eval_put_same a k v h
  simpa [Act.eval] using this
theorem put_getD_out {a : Act} {k : Nat} {v : Value} (h : ¬ k < a.tmps.size) : (a.put (some k) v) = a := by
  cases a; simp [Act.put, Array.setIfInBounds, h]
theorem put_getD_ne {a : Act} {k t : Nat} {v : Value} (h : k ≠ t) : (a.put (some k) v).tmps.getD t undef = a.tmps.getD t undef := by
  have := Act.eval_put_ne a k t v h
  simpa [Act.eval] using this

/-- The frame behind a put. -/
def FS.put (s : FS) (n : Nat) (dst : Option Tmp) (d : D) : FS where
  tmp := fun t => if dst = some t ∧ t < n then d else s.tmp t
  blk := s.blk

/-- A temporary gets a value. -/
theorem RelB.put {c : Ctx} {n : Nat} {s : FS} {a : Act} {w : World} {β : Nat → Nat} {X : Nat → Prop} (h : RelB c n s a w β X)
    {dst : Option Tmp} {v : Value} {d : D} (hv : RepV β w X v d) (hd : ∀ b, d.ref = some b → (s.blk b).isSome = true) :
    RelB c n (s.put n dst d) (a.put dst v) w β X where
  defers := by rw [Act.defers_put']; exact h.defers
  size := by rw [Act.size_put]; exact h.size
  tmp := fun t => by
    show RepV β w X _ (if dst = some t ∧ t < n then d else s.tmp t)
    cases dst with
    | none => rw [if_neg (by simp)]; exact h.tmp t
    | some k =>
      by_cases hk : k = t
      · subst hk
        by_cases hn : k < n
        · rw [if_pos ⟨rfl, hn⟩, put_getD_same (by rw [h.size]; exact hn)]; exact hv
        · rw [if_neg (by rintro ⟨_, h2⟩; exact hn h2), put_getD_out (by rw [h.size]; exact hn)]; exact h.tmp k
      · rw [if_neg (by rintro ⟨h1, _⟩; exact hk (Option.some.inj h1)), put_getD_ne hk]; exact h.tmp t
  nd := fun t b ht => by
    have ht' : (if dst = some t ∧ t < n then d else s.tmp t).ref = some b := ht
    by_cases hc : dst = some t ∧ t < n
    · rw [if_pos hc] at ht'; exact hd b ht'
    · rw [if_neg hc] at ht'; exact h.nd t b ht'
  blk := h.blk
  inj := h.inj
  F := h.F
  Flt := h.Flt
  Xlt := h.Xlt
  below := h.below
  gh := h.gh
  ghnd := h.ghnd

/-- Less is known; no block that is looked at from outside is forgotten. -/
theorem Rel.weaken {c : Ctx} {n : Nat} {s s' : FS} {a : Act} {w : World} (h : Rel c n s a w)
    (ht : ∀ t, s'.tmp t = .any ∨ s'.tmp t = s.tmp t) (hb : ∀ b, s'.blk b = none ∨ s'.blk b = s.blk b)
    (hnd : ∀ t b, (s'.tmp t).ref = some b → (s'.blk b).isSome = true) (hgb : ∀ b, b < c.gb → s'.blk b = s.blk b) : Rel c n s' a w := by
  obtain ⟨β, X, h⟩ := h
  refine ⟨β, X, h.defers, h.size, fun t => ?_, hnd, fun b cs hs => ?_, fun b b' h1 h2 => ?_, h.F, h.Flt, h.Xlt, h.below, h.gh, fun p hp b hpb => ?_⟩
  · rcases ht t with e | e
    · rw [e]; exact .p (.any _)
    · rw [e]; exact h.tmp t
  · rcases hb b with e | e
    · rw [e] at hs; cases hs
    · exact h.blk b cs (by rw [← e]; exact hs)
  · refine h.inj b b' ?_ ?_
    · rcases hb b with e | e
      · rw [e] at h1; simp at h1
      · rw [← e]; exact h1
    · rcases hb b' with e | e
      · rw [e] at h2; simp at h2
      · rw [← e]; exact h2
  · obtain ⟨h1, h2⟩ := h.ghnd p hp b hpb
    exact ⟨h1, by rw [hgb b h1]; exact h2⟩

/-- The frame behind a new own block. -/
def FS.setBlk (s : FS) (b : Nat) (cs : Option (List D)) : FS where
  tmp := s.tmp
  blk := fun k => if k = b then cs else s.blk k

/-- A new own block: number b, which was free. -/
theorem RelB.new {c : Ctx} {n : Nat} {s : FS} {a : Act} {w : World} {β : Nat → Nat} {X : Nat → Prop} (h : RelB c n s a w β X)
    (b : Nat) (hfree : s.blk b = none) (e : TypeId) (us : Array Value) (cs : List D) (hle : cs.length ≤ us.size) (hr : Reps w X (us.toList.take cs.length) cs) :
    RelB c n (s.setBlk b (some cs)) a (w.alloc (.cells us e)) (fun k => if k = b then w.heap.size else β k) (fun k => X k ∨ k = w.heap.size) := by
  have hbel : Below w.heap.size w (w.alloc (.cells us e)) := (Below.refl _ _).alloc (Nat.le_refl _) _
  have hst := stays_below_new (X := X) hbel (Nat.le_refl w.heap.size)
  have hsh := shapes_below hbel
  have hnew : (w.alloc (.cells us e)).heap[w.heap.size]? = some (.cells us e (0, 0)) := heap_alloc_new w _
  have lt : ∀ j, (s.blk j).isSome = true → β j < w.heap.size := fun j hj => by
    obtain ⟨cs', hc⟩ := Option.isSome_iff_exists.1 hj
    exact h.Xlt _ (h.blk j cs' hc).2.1
  have hliv : ∀ b', (s.blk b').isSome = true → b' ≠ b := fun b' hb' e => by rw [e, hfree] at hb'; simp at hb'
  have hsome : ∀ b', (s.blk b').isSome = true → ((s.setBlk b (some cs)).blk b').isSome = true := fun b' hb' => by
    show (if b' = b then some cs else s.blk b').isSome = true
    split
    · rfl
    · exact hb'
  refine ⟨h.defers, h.size, fun t => ?_, fun t b' ht => hsome b' (h.nd t b' ht), fun k cs' hk => ?_, fun k k' hk hk' he => ?_, fun k hk => .inl (h.F k hk), h.Flt, fun k hk => ?_, h.below.trans (hbel.mono h.below.size), fun p hp => ?_, fun p hp b' hb' => ?_⟩
  · refine ((h.tmp t).mono hst hsh).congr fun b' hb' => ?_
    rw [if_neg (hliv b' (h.nd t b' hb'))]
  · have hk' : (if k = b then some cs else s.blk k) = some cs' := hk
    by_cases hkb : k = b
    · rw [if_pos hkb] at hk'
      obtain rfl := Option.some.inj hk'
      simp only [hkb, if_true]
      exact ⟨h.below.size, .inr trivial, us, e, hnew, hle, hr.mono hst⟩
    · rw [if_neg hkb] at hk'
      obtain ⟨h1, h2, us', e', h3, h4, h5⟩ := h.blk k cs' hk'
      simp only [if_neg hkb]
      refine ⟨h1, .inl h2, us', e', ?_, h4, h5.mono hst⟩
      rw [hbel.block (β k) (Array.getElem?_eq_some_iff.1 h3).1]; exact h3
  · have hk1 : (if k = b then some cs else s.blk k).isSome = true := hk
    have hk2 : (if k' = b then some cs else s.blk k').isSome = true := hk'
    by_cases h1 : k = b <;> by_cases h2 : k' = b
    · rw [h1, h2]
    · rw [if_neg h2] at hk2
      simp only [if_pos h1, if_neg h2] at he
      have := lt k' hk2; omega
    · rw [if_neg h1] at hk1
      simp only [if_neg h1, if_pos h2] at he
      have := lt k hk1; omega
    · rw [if_neg h1] at hk1
      rw [if_neg h2] at hk2
      simp only [if_neg h1, if_neg h2] at he
      exact h.inj k k' hk1 hk2 he
  · have hs : (w.alloc (.cells us e)).heap.size = w.heap.size + 1 := by simp
    rcases hk with hk | hk
    · have := h.Xlt k hk; omega
    · omega
  · refine ((h.gh p hp).mono hst hsh).congr fun b' hb' => ?_
    rw [if_neg (hliv b' (h.ghnd p hp b' hb').2)]
  · obtain ⟨h1, h2⟩ := h.ghnd p hp b' hb'
    exact ⟨h1, hsome b' h2⟩

/-- A block that somebody else has made becomes an own block: number b, which was free. -/
theorem RelB.adopt {c : Ctx} {n : Nat} {s : FS} {a : Act} {w w' : World} {β : Nat → Nat} {X : Nat → Prop} (h : RelB c n s a w β X) (hbel : Below w.heap.size w w')
    (b : Nat) (hfree : s.blk b = none) {k0 : Nat} {e : TypeId} {us : Array Value} {cs : List D} (hk0 : w.heap.size ≤ k0) (hu : w'.heap[k0]? = some (.cells us e (0, 0))) (hle : cs.length ≤ us.size)
    (hr : Reps w' (fun k => X k ∨ k = k0) (us.toList.take cs.length) cs) :
    RelB c n (s.setBlk b (some cs)) a w' (fun k => if k = b then k0 else β k) (fun k => X k ∨ k = k0) := by
  have hst := stays_below_new (X := X) hbel hk0
  have hsh := shapes_below hbel
  have lt : ∀ j, (s.blk j).isSome = true → β j < w.heap.size := fun j hj => by
    obtain ⟨cs', hc⟩ := Option.isSome_iff_exists.1 hj
    exact h.Xlt _ (h.blk j cs' hc).2.1
  have hliv : ∀ b', (s.blk b').isSome = true → b' ≠ b := fun b' hb' e => by rw [e, hfree] at hb'; simp at hb'
  have hsome : ∀ b', (s.blk b').isSome = true → ((s.setBlk b (some cs)).blk b').isSome = true := fun b' hb' => by
    show (if b' = b then some cs else s.blk b').isSome = true
    split
    · rfl
    · exact hb'
  refine ⟨h.defers, h.size, fun t => ?_, fun t b' ht => hsome b' (h.nd t b' ht), fun k cs' hk => ?_, fun k k' hk hk' he => ?_, fun k hk => .inl (h.F k hk), h.Flt, fun k hk => ?_, h.below.trans (hbel.mono h.below.size), fun p hp => ?_, fun p hp b' hb' => ?_⟩
  · refine ((h.tmp t).mono hst hsh).congr fun b' hb' => ?_
    rw [if_neg (hliv b' (h.nd t b' hb'))]
  · have hk' : (if k = b then some cs else s.blk k) = some cs' := hk
    by_cases hkb : k = b
    · rw [if_pos hkb] at hk'
      obtain rfl := Option.some.inj hk'
      simp only [hkb, if_true]
      exact ⟨Nat.le_trans h.below.size hk0, .inr trivial, us, e, hu, hle, hr⟩
    · rw [if_neg hkb] at hk'
      obtain ⟨h1, h2, us', e', h3, h4, h5⟩ := h.blk k cs' hk'
      simp only [if_neg hkb]
      refine ⟨h1, .inl h2, us', e', ?_, h4, h5.mono hst⟩
      rw [hbel.block (β k) (Array.getElem?_eq_some_iff.1 h3).1]; exact h3
  · have hk1 : (if k = b then some cs else s.blk k).isSome = true := hk
    have hk2 : (if k' = b then some cs else s.blk k').isSome = true := hk'
    by_cases h1 : k = b <;> by_cases h2 : k' = b
    · rw [h1, h2]
    · rw [if_neg h2] at hk2
      simp only [if_pos h1, if_neg h2] at he
      have := lt k' hk2; omega
    · rw [if_neg h1] at hk1
      simp only [if_neg h1, if_pos h2] at he
      have := lt k hk1; omega
    · rw [if_neg h1] at hk1
      rw [if_neg h2] at hk2
      simp only [if_neg h1, if_neg h2] at he
      exact h.inj k k' hk1 hk2 he
  · have hs := (Array.getElem?_eq_some_iff.1 hu).1
    have := hbel.size
    rcases hk with hk | hk
    · have := h.Xlt k hk; omega
    · omega
  · refine ((h.gh p hp).mono hst hsh).congr fun b' hb' => ?_
    rw [if_neg (hliv b' (h.ghnd p hp b' hb').2)]
  · obtain ⟨h1, h2⟩ := h.ghnd p hp b' hb'
    exact ⟨h1, hsome b' h2⟩

/-- A store into an own block. -/
theorem RelB.store {c : Ctx} {n : Nat} {s : FS} {a : Act} {w : World} {β : Nat → Nat} {X : Nat → Prop} (h : RelB c n s a w β X)
    (b : Nat) (cs cs' : List D) (hb : s.blk b = some cs) (us us' : Array Value) (e : TypeId) (hu : w.heap[β b]? = some (.cells us e (0, 0))) (hsz : us'.size = us.size)
    (hle : cs'.length ≤ us'.size) (hr : Reps w X (us'.toList.take cs'.length) cs') :
    RelB c n (s.setBlk b (some cs')) a (w.setRow (β b) us') β X := by
  obtain ⟨h1, h2, us0, e0, h3, h4⟩ := h.blk b cs hb
  have hst : ∀ a u, w.cell? a = some u → ¬ X a.block → (w.setRow (β b) us').cell? a = some u ∧ ¬ X a.block := fun a u ha hx =>
    ⟨by rw [cell_setRow_other w (β b) us' a (fun e => hx (by rw [e]; exact h2))]; exact ha, hx⟩
  have hsh := shapes_setRow hu hsz
  have hbel : Below c.w0.heap.size w (w.setRow (β b) us') := ⟨rfl, rfl, rfl, by simp, fun k hk => setRow_other w (β b) k us' (by omega)⟩
  have hsome : ∀ b', (s.blk b').isSome = true → ((s.setBlk b (some cs')).blk b').isSome = true := fun b' hb' => by
    show (if b' = b then some cs' else s.blk b').isSome = true
    split
    · rfl
    · exact hb'
  have hback : ∀ b', ((s.setBlk b (some cs')).blk b').isSome = true → (s.blk b').isSome = true := fun b' hb' => by
    have hk1 : (if b' = b then some cs' else s.blk b').isSome = true := hb'
    by_cases h1 : b' = b
    · rw [h1, hb]; rfl
    · rw [if_neg h1] at hk1; exact hk1
  refine ⟨h.defers, h.size, fun t => (h.tmp t).mono hst hsh, fun t b' ht => hsome b' (h.nd t b' ht), fun k cs'' hk => ?_, fun k k' hk hk' he => h.inj k k' (hback k hk) (hback k' hk') he, h.F, h.Flt, fun k hk => by simpa using h.Xlt k hk,
    h.below.trans hbel, fun p hp => (h.gh p hp).mono hst hsh, fun p hp b' hb' => ⟨(h.ghnd p hp b' hb').1, hsome b' (h.ghnd p hp b' hb').2⟩⟩
  have hk' : (if k = b then some cs' else s.blk k) = some cs'' := hk
  by_cases hkb : k = b
  · rw [if_pos hkb] at hk'
    obtain rfl := Option.some.inj hk'
    subst hkb
    exact ⟨h1, h2, us', e, setRow_heap w (β k) us us' e (0, 0) hu, hle, hr.mono hst⟩
  · rw [if_neg hkb] at hk'
    obtain ⟨k1, k2, us2, e2, k3, k4, k5⟩ := h.blk k cs'' hk'
    have hne : β k ≠ β b := fun e => hkb (h.inj k b (by rw [hk']; rfl) (by rw [hb]; rfl) e)
    exact ⟨k1, k2, us2, e2, by rw [setRow_other w (β b) (β k) us' hne]; exact k3, k4, k5.mono hst⟩

/-- Whoever points into block b is forgotten. -/
def FS.clear (s : FS) (b : Nat) : FS where
  tmp := fun t => if (s.tmp t).ref = some b then .any else s.tmp t
  blk := s.blk
theorem RelB.clear {c : Ctx} {n : Nat} {s : FS} {a : Act} {w : World} {β : Nat → Nat} {X : Nat → Prop} (h : RelB c n s a w β X) (b : Nat) : RelB c n (s.clear b) a w β X where
  defers := h.defers
  size := h.size
  tmp := fun t => by
    show RepV β w X _ (if (s.tmp t).ref = some b then .any else s.tmp t)
    split
    · exact .p (.any _)
    · exact h.tmp t
  nd := fun t b' ht => by
    have ht' : (if (s.tmp t).ref = some b then D.any else s.tmp t).ref = some b' := ht
    split at ht'
    · simp [D.ref] at ht'
    · exact h.nd t b' ht'
  blk := h.blk
  inj := h.inj
  F := h.F
  Flt := h.Flt
  Xlt := h.Xlt
  below := h.below
  gh := h.gh
  ghnd := h.ghnd
/-- Block b moves to a new place; nobody points into it. -/
theorem RelB.moved {c : Ctx} {n : Nat} {s : FS} {a : Act} {w : World} {β : Nat → Nat} {X : Nat → Prop} (h : RelB c n s a w β X) (b : Nat) (hgb : c.gb ≤ b)
    (hno : ∀ t, (s.tmp t).ref ≠ some b) (e : TypeId) (us : Array Value) (cs : List D) (hle : cs.length ≤ us.size) (hr : Reps w X (us.toList.take cs.length) cs) :
    RelB c n (s.setBlk b (some cs)) a (w.alloc (.cells us e)) (fun k => if k = b then w.heap.size else β k) (fun k => X k ∨ k = w.heap.size) := by
  have h0 : RelB c n (s.setBlk b none) a w β X := by
    refine ⟨h.defers, h.size, h.tmp, fun t b' ht => ?_, fun k cs' hk => ?_, fun k k' hk hk' he => ?_, h.F, h.Flt, h.Xlt, h.below, h.gh, fun p hp b' hb' => ?_⟩
    · show (if b' = b then none else s.blk b').isSome = true
      rw [if_neg (fun e => hno t (by rw [← e]; exact ht))]; exact h.nd t b' ht
    · have hk' : (if k = b then none else s.blk k) = some cs' := hk
      split at hk'
      · cases hk'
      · exact h.blk k cs' hk'
    · have q1 : (if k = b then none else s.blk k).isSome = true := hk
      have q2 : (if k' = b then none else s.blk k').isSome = true := hk'
      split at q1
      · simp at q1
      · split at q2
        · simp at q2
        · exact h.inj k k' q1 q2 he
    · obtain ⟨h1, h2⟩ := h.ghnd p hp b' hb'
      refine ⟨h1, ?_⟩
      show (if b' = b then none else s.blk b').isSome = true
      rw [if_neg (by omega)]; exact h2
  have h1 := h0.new b (by simp [FS.setBlk]) e us cs hle hr
  have e2 : (s.setBlk b none).setBlk b (some cs) = s.setBlk b (some cs) := by
    simp only [FS.setBlk]
    congr 1
    funext k
    split <;> rfl
  rw [e2] at h1; exact h1

/-- What pointers into a block become when the block is never written again. -/
def D.thaw (b : Nat) (cs : List D) : D → D
  | .ptr b' off => if b' == b then .rptr (cs.drop off) else .ptr b' off
  | .slc b' off len cap => if b' == b then .row len false ((cs.drop off).take len) else .slc b' off len cap
  | .gsl b' n size => if b' == b then .row n false (cs.take (n * size)) else .gsl b' n size
  | d => d
def FS.freeze (s : FS) (b : Nat) (cs : List D) : FS where
  tmp := fun t => (s.tmp t).thaw b cs
  blk := fun k => if k = b then none else s.blk k
theorem thaw_rep {β : Nat → Nat} {w : World} {X : Nat → Prop} {b : Nat} {cs : List D} {us : Array Value} {e : TypeId} (hu : w.heap[β b]? = some (.cells us e (0, 0)))
    (hr : Reps w X (us.toList.take cs.length) cs) {v : Value} {d : D} (hv : RepV β w X v d) : RepV β w (fun k => X k ∧ k ≠ β b) v (d.thaw b cs) := by
  have hmono : ∀ a u, w.cell? a = some u → ¬ X a.block → w.cell? a = some u ∧ ¬ (X a.block ∧ a.block ≠ β b) := fun a u h hx => ⟨h, fun h2 => hx h2.1⟩
  have hr' := hr.mono (X' := fun k => X k ∧ k ≠ β b) hmono
  have cells : ∀ off m i (h : i < ((us.toList.take cs.length).drop off |>.take m).length), w.cell? ((⟨β b, off, none⟩ : Addr).add i) = some (((us.toList.take cs.length).drop off |>.take m)[i]) := by
    intro off m i hi
    rw [Addr.lit_add, cell_of_row w _ _ us e (0, 0) hu]
    simp at hi ⊢
  cases hv with
  | p hp =>
    have : d.thaw b cs = d := by cases hp <;> rfl
    rw [this]; exact .p (hp.mono hmono)
  | ptr b' off =>
    by_cases hb : b' = b
    · subst hb
      simp only [D.thaw, beq_self_eq_true, if_true]
      have h2 := hr'.drop off
      refine .p (.rptr _ _ _ h2.1 (fun i hi => ⟨fun hx => hx.2 rfl, ?_⟩) h2.2)
      have := cells off ((us.toList.take cs.length).drop off).length i (by rw [List.take_length]; exact hi)
      simpa using this
    · have : (D.ptr b' off).thaw b cs = .ptr b' off := by simp [D.thaw, hb]
      rw [this]; exact .ptr b' off
  | slc b' off len cap h1 h2 =>
    by_cases hb : b' = b
    · subst hb
      simp only [D.thaw, beq_self_eq_true, if_true]
      have h3 := (hr'.drop off).take len
      exact .p (.row _ _ _ _ _ _ h3.1 h1 h2 (fun h => by cases h) (fun i hi => ⟨_, rfl, fun hx => hx.2 rfl, cells off len i hi⟩) h3.2)
    · have : (D.slc b' off len cap).thaw b cs = .slc b' off len cap := by simp [D.thaw, hb]
      rw [this]; exact .slc b' off len cap h1 h2
  | gsl b' n size cap e' h1 h2 h3 =>
    by_cases hb : b' = b
    · subst hb
      simp only [D.thaw, beq_self_eq_true, if_true]
      have h4 := (hr'.drop 0).take (n * size)
      refine .p (.row _ _ _ _ _ _ h4.1 h1 h2 (fun h => by cases h) (fun i hi => ⟨_, rfl, fun hx => hx.2 rfl, cells 0 (n * size) i hi⟩) h4.2)
    · have : (D.gsl b' n size).thaw b cs = .gsl b' n size := by simp [D.thaw, hb]
      rw [this]; exact .gsl b' n size cap e' h1 h2 h3
theorem thaw_ref {d : D} {b b' : Nat} {cs : List D} (h : (d.thaw b cs).ref = some b') : d.ref = some b' ∧ b' ≠ b := by
  cases d <;> simp only [D.thaw] at h
  case ptr b2 off =>
    by_cases hb : b2 = b
    · subst hb; simp [D.ref] at h
    · simp [hb, D.ref] at h; subst h; exact ⟨rfl, hb⟩
  case slc b2 off len cap =>
    by_cases hb : b2 = b
    · subst hb; simp [D.ref] at h
    · simp [hb, D.ref] at h; subst h; exact ⟨rfl, hb⟩
  case gsl b2 n size =>
    by_cases hb : b2 = b
    · subst hb; simp [D.ref] at h
    · simp [hb, D.ref] at h; subst h; exact ⟨rfl, hb⟩
  all_goals (exfalso; revert h; simp [D.ref])
/-- A block is never written again. -/
theorem RelB.freeze {c : Ctx} {n : Nat} {s : FS} {a : Act} {w : World} {β : Nat → Nat} {X : Nat → Prop} (h : RelB c n s a w β X) {b : Nat} {cs : List D} (hb : s.blk b = some cs) (hgb : c.gb ≤ b) :
    RelB c n (s.freeze b cs) a w β (fun k => X k ∧ k ≠ β b) := by
  obtain ⟨h1, h2, us, e, h3, _, h5⟩ := h.blk b cs hb
  have hmono : ∀ a u, w.cell? a = some u → ¬ X a.block → w.cell? a = some u ∧ ¬ (X a.block ∧ a.block ≠ β b) := fun a u h hx => ⟨h, fun h2 => hx h2.1⟩
  refine ⟨h.defers, h.size, fun t => thaw_rep h3 h5 (h.tmp t), fun t b' ht => ?_, fun k cs' hk => ?_, fun k k' hk hk' he => ?_, fun k hk => ⟨h.F k hk, fun e => by have := h.Flt k hk; omega⟩, h.Flt, fun k hk => h.Xlt k hk.1, h.below, fun p hp => ?_, fun p hp b' hb' => ?_⟩
  · obtain ⟨q1, q2⟩ := thaw_ref ht
    show (if b' = b then none else s.blk b').isSome = true
    rw [if_neg q2]; exact h.nd t b' q1
  · have hk' : (if k = b then none else s.blk k) = some cs' := hk
    split at hk'
    · cases hk'
    · rename_i hkb
      obtain ⟨q1, q2, us', e', q3, q4, q5⟩ := h.blk k cs' hk'
      exact ⟨q1, ⟨q2, fun e => hkb (h.inj k b (by rw [hk']; rfl) (by rw [hb]; rfl) e)⟩, us', e', q3, q4, q5.mono hmono⟩
  · have q1 : (if k = b then none else s.blk k).isSome = true := hk
    have q2 : (if k' = b then none else s.blk k').isSome = true := hk'
    split at q1
    · simp at q1
    · split at q2
      · simp at q2
      · exact h.inj k k' q1 q2 he
  · have : p.2.thaw b cs = p.2 := by
      have hne : p.2.ref ≠ some b := fun e => by have := (h.ghnd p hp b e).1; omega
      cases hd : p.2 <;> simp only [D.thaw] <;> rw [hd] at hne <;> simp only [D.ref, ne_eq, Option.some.injEq] at hne <;> simp [hne]
    have q := thaw_rep h3 h5 (h.gh p hp)
    rwa [this] at q
  · obtain ⟨q1, q2⟩ := h.ghnd p hp b' hb'
    refine ⟨q1, ?_⟩
    show (if b' = b then none else s.blk b').isSome = true
    rw [if_neg (by omega)]; exact q2
end Lw
