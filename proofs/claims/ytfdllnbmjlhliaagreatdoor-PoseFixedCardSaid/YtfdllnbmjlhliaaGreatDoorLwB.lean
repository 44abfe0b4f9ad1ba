/- What an operation does to abstract data: 'eff', a function that the kernel can run. No condition. -/
import Derived.Test.YtfdllnbmjlhliaaGreatDoorLwA
import GoSem.Dispatch
namespace Lw
open Go Go.RowKit

/-- Run without a world: none where the world would be asked. -/
def pureRun {α : Type} (P : Program) : Sem α → Option α
  | .pure a => some a
  | .program k => pureRun P (k P)
  | .mark _ k => pureRun P k
  | .load .. | .store .. | .new .. | .shape .. | .freeze .. | .frozen .. | .getObj .. | .setObj .. | .choose .. | .sys .. | .halt .. => none

theorem pureRun_run {α : Type} {P : Program} {m : Sem α} {a : α} (h : pureRun P m = some a) (w : World) : m.run P w = .ok a w := by
  induction m with
  | pure b => simp only [pureRun, Option.some.injEq] at h; subst h; rfl
  | program k ih => simp only [pureRun] at h; simp only [Sem.run]; exact ih P h
  | mark m k ih => simp only [pureRun] at h; simp only [Sem.run]; exact ih h
  | load | store | new | shape | freeze | frozen | getObj | setObj | choose | sys | halt => simp [pureRun] at h

/-- A value as abstract data: in a cell, and alone. -/
def D.ofCell : Value → D
  | .slice none 0 0 => .row 0 false []
  | v => .lit v
def D.ofVal : Value → D
  | .agg cs => .agg (cs.toList.map D.ofCell)
  | .slice none 0 0 => .row 0 true []
  | v => .lit v
theorem nil_rep (w : World) (X : Nat → Prop) (f : Bool) : RepP w X (.slice none 0 0) (.row 0 f []) :=
  .row none 0 0 f [] [] rfl (Nat.le_refl 0) (by unfold maxLen; omega) (fun _ => rfl) (fun i h => absurd h (by simp)) (fun i h => absurd h (by simp))
theorem D.ofCell_rep (w : World) (X : Nat → Prop) (v : Value) : RepP w X v (D.ofCell v) := by
  unfold D.ofCell
  split
  · exact nil_rep w X false
  · exact .lit _
theorem reps_ofCell (w : World) (X : Nat → Prop) (l : List Value) : Reps w X l (l.map D.ofCell) :=
  ⟨by simp, fun i h1 h2 => by rw [List.getElem_map]; exact D.ofCell_rep w X _⟩
theorem RepP.ofReps {w : World} {X : Nat → Prop} {us : List Value} {xs : List D} (h : Reps w X us xs) : RepP w X (.agg us.toArray) (.agg xs) := .agg us xs h.1 h.2
theorem D.ofVal_rep (w : World) (X : Nat → Prop) (v : Value) : RepP w X v (D.ofVal v) := by
  unfold D.ofVal
  split
  · rename_i cs
    have := RepP.ofReps (reps_ofCell w X cs.toList)
    simpa using this
  · exact nil_rep w X true
  · exact .lit _
/-- A slice of which the capacity is not known. -/
def D.relax : D → D
  | .row n _ xs => .row n false xs
  | d => d
theorem relax_rep {w : World} {X : Nat → Prop} {v : Value} {d : D} (h : RepP w X v d) : RepP w X v d.relax := by
  cases h with
  | row a len cap full us xs hl hlen hcap hf hm hr => exact .row a len cap false us xs hl hlen hcap (fun h => by cases h) hm hr
  | any v => exact .any v
  | lit v => exact .lit v
  | rptr a us xs hl hm hr => exact .rptr a us xs hl hm hr
  | agg us xs hl hr => exact .agg us xs hl hr
  | tup us xs hl hr => exact .tup us xs hl hr

/-- Abstract data as a value, where it is one. -/
def D.toLit : D → Option Value
  | .lit v => some v
  | _ => none
def D.toLits : List D → Option (List Value)
  | [] => some []
  | x :: xs => match x.toLit, D.toLits xs with
    | some v, some vs => some (v :: vs)
    | _, _ => none
def D.toVal : D → Option Value
  | .lit v => some v
  | .agg xs => (D.toLits xs).map fun vs => .agg vs.toArray
  | _ => none
theorem toLits_eq {w : World} {X : Nat → Prop} : ∀ {us : List Value} {xs : List D} {vs : List Value}, Reps w X us xs → D.toLits xs = some vs → us = vs
  | us, [], vs, h, e => by
    simp only [D.toLits, Option.some.injEq] at e
    rw [← e]; exact List.eq_nil_of_length_eq_zero (by simpa using h.1)
  | us, x :: xs, vs, h, e => by
    cases us with
    | nil => have := h.1; simp at this
    | cons u us =>
      simp only [D.toLits] at e
      split at e
      · rename_i v vs' e1 e2
        simp only [Option.some.injEq] at e
        subst e
        have h1 := h.head
        have h2 := toLits_eq h.tail e2
        cases x <;> simp only [D.toLit, Option.some.injEq, reduceCtorEq] at e1
        subst e1
        cases h1
        rw [h2]
      · cases e
theorem toVal_eq {w : World} {X : Nat → Prop} {u v : Value} {d : D} (h : RepP w X u d) (e : d.toVal = some v) : u = v := by
  cases d <;> simp only [D.toVal, Option.some.injEq, reduceCtorEq] at e
  case lit => subst e; cases h; rfl
  case agg xs =>
    cases hx : D.toLits xs with
    | none => rw [hx] at e; cases e
    | some vs =>
      rw [hx] at e
      simp only [Option.map_some, Option.some.injEq] at e
      subst e
      cases h with
      | agg us _ hl hr => rw [toLits_eq ⟨hl, hr⟩ hx]
theorem toVal_ref {d : D} {v : Value} (e : d.toVal = some v) : d.ref = none := by
  cases d <;> simp [D.toVal, D.ref] at e ⊢

/-- The cells of abstract data. -/
def D.cells : D → Option (List D)
  | .agg xs => some xs
  | .lit v => match v with
    | .agg _ | .tuple _ => none
    | v => some [.lit v]
  | .row n _ xs => some [.row n false xs]
  | .rptr xs => some [.rptr xs]
  | _ => none
theorem cells_rep {w : World} {X : Nat → Prop} {v : Value} {d : D} {xs : List D} (h : RepP w X v d) (e : d.cells = some xs) : Reps w X v.cells.toList xs := by
  cases h with
  | any => simp [D.cells] at e
  | lit v =>
    cases v <;> simp only [D.cells, Option.some.injEq, reduceCtorEq] at e <;> subst e <;> exact Reps.cons (.lit _) Reps.nil
  | row a len cap full us ys hl hlen hcap hf hm hr =>
    simp only [D.cells, Option.some.injEq] at e; subst e
    exact Reps.cons (.row a len cap false us ys hl hlen hcap (fun h => by cases h) hm hr) Reps.nil
  | rptr a us ys hl hm hr =>
    simp only [D.cells, Option.some.injEq] at e; subst e
    exact Reps.cons (.rptr a us ys hl hm hr) Reps.nil
  | agg us ys hl hr =>
    simp only [D.cells, Option.some.injEq] at e; subst e
    have e : (Value.agg us.toArray).cells.toList = us := by simp [Value.cells]
    rw [e]; exact ⟨hl, hr⟩
  | tup => simp [D.cells] at e
theorem cells_ref {d : D} {xs : List D} (e : d.cells = some xs) : d.ref = none := by
  cases d <;> simp [D.cells, D.ref] at e ⊢
/-- May it stand in one cell? -/
def D.cellOk : D → Bool
  | .lit v => match v with
    | .agg _ | .tuple _ => false
    | _ => true
  | .row .. | .rptr .. => true
  | _ => false
theorem cellOk_one {w : World} {X : Nat → Prop} {v : Value} {d : D} (h : RepP w X v d) (e : d.cellOk = true) : v.oneCell' = true := by
  cases h with
  | any => simp [D.cellOk] at e
  | lit v => cases v <;> simp [D.cellOk, Value.oneCell'] at e ⊢
  | row => rfl
  | rptr => rfl
  | agg => simp [D.cellOk] at e
  | tup => simp [D.cellOk] at e

/-! Types. -/
def tySize (P : Program) (t : TypeId) : Option Nat := (P.info? t).map (·.size)
def tyZero (P : Program) (t : TypeId) : Option Value := (P.info? t).bind (·.zero)
def tyAgg (P : Program) (t : TypeId) : Option Bool := (P.underlying t).map fun | .struct _ | .array _ _ => true | _ => false
def tyZeros (P : Program) (t : TypeId) : Option (List D) := (tyZero P t).map fun z => z.cells.toList.map D.ofCell
def tyField (P : Program) (s : TypeId) (f : Nat) : Option (Nat × TypeId) :=
  match P.underlying s with
  | some (.struct fields) => (fields[f]?).map fun f => (f.offset, f.type)
  | _ => none
def tyElem (P : Program) (t : TypeId) : Option (Option Nat × TypeId) :=
  match P.underlying t with
  | some (.slice e) => some (none, e)
  | some (.array n e) => some (some n, e)
  | _ => none

def tyStr (P : Program) (t : TypeId) : Bool := match P.underlying t with | some .string => true | _ => false
/-- The text that abstract data is. -/
def D.str : D → Option ByteArray
  | .lit v => match v with
    | .string s => some s
    | _ => none
  | _ => none
/-- What is owed beside the step: a proposition, and a Bool that the kernel may reckon in its place. -/
inductive Need where
  | no
  | want (p : Prop) (b : Bool) (h : b = true → p)
def Need.ok : Need → Prop
  | .no => True
  | .want p _ _ => p
def need (p : Prop) [Decidable p] : Need := .want p (decide p) of_decide_eq_true
@[simp] theorem need_ok (p : Prop) [Decidable p] : (need p).ok = p := rfl
@[simp] theorem no_ok : Need.no.ok = True := rfl

/-- Effects. -/
inductive Eff where
  | val (d : D)
  | new (b : Nat) (cs : List D) (d : D)
  | store (b off : Nat) (ds : List D)
  | grow (b : Nat) (cs : List D) (d : D)
  | call (f : FuncId) (args : List D)

/-- Parts are filled in. -/
def fillD (place : Nat → Option (Nat × Nat)) : List D → List (Nat × D) → Option (List D)
  | cs, [] => some cs
  | cs, (i, d) :: rest =>
    match place i, d.cells with
    | some (off, size), some ds => if ds.length == size && Nat.ble (off + size) cs.length then fillD place (cs.take off ++ (ds ++ cs.drop (off + size))) rest else none
    | _, _ => none
def buildD (P : Program) (t : TypeId) (parts : List (Nat × D)) : Option (List D) :=
  match P.info? t, P.underlying t with
  | some it, some (.array _ e) =>
    match it.zero, P.info? e with
    | some z, some ie => fillD (fun i => some (i * ie.size, ie.size)) (z.cells.toList.map D.ofCell) parts
    | _, _ => none
  | some it, some (.struct fields) =>
    match it.zero, fields.toList.mapM (fun f => (P.info? f.type).map fun i => (f.offset, i.size)) with
    | some z, some places => fillD (places.toArray[·]?) (z.cells.toList.map D.ofCell) parts
    | _, _ => none
  | _, _ => none
def rowZeros (zs : List D) (n : Nat) : List D := (List.range n).map fun i => zs.getD (i % zs.length) .any
def buildSliceD (P : Program) (t : TypeId) (len : Nat) (parts : List (Nat × D)) : Option (List D) :=
  match P.underlying t with
  | some (.slice e) => match tySize P e, tyZeros P e with
    | some n, some zs => if Nat.ble (len * n) (2 ^ 24) && zs.length == n && Nat.blt 0 n then fillD (fun i => some (i * n, n)) (rowZeros zs (len * n)) parts else none
    | _, _ => none
  | _ => none

def callTarget (P : Program) (v : D) : Option FuncId :=
  match v with
  | .lit (.func (.func f) first captured) => match P.funcs[f]? with
    | some fn => if (first.size == 0 && captured.size == 0) && (fn.body.isSome && !(fn.name == "runtime.NumGoroutine")) then some f else none
    | none => none
  | _ => none

/-- What an operand holds. -/
def FS.ev (s : FS) : Operand → D
  | .tmp t => s.tmp t
  | .const v => D.ofVal v
  | .global g => .lit (.pointer (some ⟨g, 0, none⟩))
  | .func f => .lit (.func (.func f) #[] #[])

/-- The effect of an operation, from what its operands hold and what own blocks hold. nb: the next own block's number; ro: this operation's new block is never written; gb: below it the own blocks of those who wait. -/
def eff (P : Program) (o : Oper) (ρ : Operand → D) (blk : Nat → Option (List D)) (nb : Nat) (ro : Bool) (gb : Nat) : Option (Eff × Need) :=
  match o.op with
  | .move x | .assign x => some (.val (ρ x), .no)
  | .pick c a b => match ρ c with
    | .lit (.bool true) => some (.val (ρ a), .no)
    | .lit (.bool false) => some (.val (ρ b), .no)
    | _ => none
  | .alloc elem => match tyZeros P elem with
    | some zs => if ro then some (.val (.rptr zs), .no) else some (.new nb zs (.ptr nb 0), .no)
    | none => none
  | .box _ x => match (ρ x).cells with
    | some cs => if ro then some (.val (.rptr cs), .no) else some (.new nb cs (.ptr nb 0), .no)
    | none => none
  | .build t parts => match buildD P t (parts.toList.map fun p => (p.1, ρ p.2)) with
    | some cs => some (.val (.agg cs), .no)
    | none => none
  | .buildSlice t len parts => match buildSliceD P t len (parts.toList.map fun p => (p.1, ρ p.2)) with
    | some cs => some (.val (.row len true cs), .no)
    | none => none
  | .load t addr => match tySize P t, tyAgg P t with
    | some sz, some ag => match ρ addr with
      | .rptr cs => some (.val (if ag then .agg (cs.take sz) else cs.headD .any), need (0 < sz ∧ sz ≤ cs.length))
      | .ptr b off => match blk b with
        | some cs => some (.val (if ag then .agg ((cs.drop off).take sz) else (cs.drop off).headD .any), need (0 < sz ∧ off + sz ≤ cs.length))
        | none => none
      | _ => none
    | _, _ => none
  | .store t addr x => match ρ addr, (ρ x).cells, tySize P t with
    | .ptr b off, some ds, some sz => match blk b with
      | some cs => if ds.length == sz && ds.all D.cellOk then some (.store b off ds, need (off + sz ≤ cs.length)) else none
      | none => none
    | _, _, _ => none
  | .binOp op xType x y _ => match (ρ x).toVal, (ρ y).toVal with
    | some (.int k a), some (.int k' b) => match op with
      | .quo => if k = k' then some (.val (.lit (.int k (k.wrap (a.tdiv b)))), need (b ≠ 0)) else none
      | .rem => if k = k' then some (.val (.lit (.int k (a.tmod b))), need (b ≠ 0)) else none
      | .shl => some (.val (.lit (.int k (k.wrap (a * 2 ^ min b.toNat k.bits)))), need (0 ≤ b))
      | .shr => some (.val (.lit (.int k (a.fdiv (2 ^ min b.toNat k.bits)))), need (0 ≤ b))
      | op => match pureRun P (do eqGuard op xType x y (.int k a) (.int k' b); binOp op xType (.int k a) (.int k' b)) with
        | some v => some (.val (.lit v), .no)
        | none => none
    | some a, some b => match pureRun P (do eqGuard op xType x y a b; binOp op xType a b) with
      | some v => some (.val (.lit v), .no)
      | none => none
    | _, _ => none
  | .unOp op _ x => match (ρ x).toVal with
    | some a => match pureRun P (Op.unary op a) with
      | some v => some (.val (.lit v), .no)
      | none => none
    | none => none
  | .convert src dst x => match (ρ x).toVal with
    | some a => match pureRun P (convert src dst a) with
      | some v => some (.val (.lit v), .no)
      | none => none
    | none => none
  | .makeInterface t x => match (ρ x).toVal with
    | some a => match pureRun P (Instr.makeInterface t a) with
      | some v => some (.val (.lit v), .no)
      | none => none
    | none => none
  | .typeAssert x t asserted ok => match (ρ x).toVal with
    | some a => match pureRun P (Instr.typeAssert a t asserted ok) with
      | some (.tuple vs) => some (.val (.tup (vs.toList.map D.ofCell)), .no)
      | some v => some (.val (D.ofCell v), .no)
      | none => none
    | none => none
  | .fieldAddr s x f => match tyField P s f with
    | some (off, t) => match tySize P t with
      | some sz => if Nat.blt 0 sz then
          match ρ x with
          | .ptr b o => some (.val (.ptr b (o + off)), .no)
          | .rptr cs => some (.val (.rptr (cs.drop off)), .no)
          | _ => none
        else none
      | none => none
    | none => none
  | .field s x f => match tyField P s f, ρ x with
    | some (off, t), .agg cs => match tySize P t, tyAgg P t with
      | some sz, some ag => some (.val (if ag then .agg ((cs.drop off).take sz) else (cs.drop off).headD .any), need (off < cs.length))
      | _, _ => none
    | _, _ => none
  | .indexAddr t x ix => match tyElem P t, (ρ ix).toVal with
    | some (none, e), some (.int _ i) => match tySize P e with
      | some sz => match ρ x with
        | .row len _ cs => some (.val (.rptr (cs.drop (i.toNat * sz))), need ((0 ≤ i ∧ i < len) ∧ i.toNat * sz < cs.length))
        | .slc b off len _ => some (.val (.ptr b (off + i.toNat * sz)), need (0 ≤ i ∧ i < len))
        | .gsl b len _ => some (.val (.ptr b (i.toNat * sz)), need (0 ≤ i ∧ i < len))
        | _ => none
      | none => none
    | some (some n, e), some (.int _ i) => match tySize P e with
      | some sz => match ρ x with
        | .rptr cs => some (.val (.rptr (cs.drop (i.toNat * sz))), need (0 ≤ i ∧ i < n))
        | .ptr b off => some (.val (.ptr b (off + i.toNat * sz)), need (0 ≤ i ∧ i < n))
        | _ => none
      | none => none
    | _, _ => none
  | .index t x ix => match (ρ ix).toVal with
    | some (.int _ i) => match tyElem P t, ρ x with
      | some (some n, e), .agg cs => match tySize P e, tyAgg P e with
        | some sz, some ag => some (.val (if ag then .agg ((cs.drop (i.toNat * sz)).take sz) else (cs.drop (i.toNat * sz)).headD .any), need ((0 ≤ i ∧ i < n) ∧ i.toNat * sz < cs.length))
        | _, _ => none
      | none, d => match tyStr P t, d.str with
        | true, some s => some (.val (.lit (.int .u8 ((s[i.toNat]?).getD 0).toNat)), need (0 ≤ i ∧ i.toNat < s.size))
        | _, _ => none
      | _, _ => none
    | _ => none
  | .extract x i => match ρ x with
    | .tup ds => match ds[i]? with
      | some d => some (.val d, .no)
      | none => none
    | _ => none
  | .slice t x lo hi none => match tyElem P t with
    | some (none, e) => match tySize P e, ρ x, (match lo with | some l => (ρ l).toVal | none => some (.int .i64 0)) with
      | some sz, .row len full cs, some (.int _ l) => match (match hi with | some h => (ρ h).toVal | none => some (.int .i64 len)) with
        | some (.int _ h) => some (.val (.row (h.toNat - l.toNat) (full && hi.isNone) ((cs.drop (l.toNat * sz)).take ((h.toNat - l.toNat) * sz))), need (0 ≤ l ∧ l ≤ h ∧ h ≤ len))
        | _ => none
      | some sz, .slc b off len cap, some (.int _ l) => match (match hi with | some h => (ρ h).toVal | none => some (.int .i64 len)) with
        | some (.int _ h) => some (.val (.slc b (off + l.toNat * sz) (h.toNat - l.toNat) (cap - l.toNat)), need (0 ≤ l ∧ l ≤ h ∧ h ≤ len ∧ l < cap))
        | _ => none
      | some _, .gsl b len size, some (.int _ l) => match (match hi with | some h => (ρ h).toVal | none => some (.int .i64 len)) with
        | some (.int _ h) => if l == 0 then some (.val (.gsl b h.toNat size), need (0 ≤ h ∧ h ≤ len)) else none
        | _ => none
      | _, _, _ => none
    | some (some n, e) => match tySize P e, ρ x, (match lo with | some l => (ρ l).toVal | none => some (.int .i64 0)) with
      | some sz, .rptr cs, some (.int _ l) => match (match hi with | some h => (ρ h).toVal | none => some (.int .i64 n)) with
        | some (.int _ h) => some (.val (.row (h.toNat - l.toNat) hi.isNone ((cs.drop (l.toNat * sz)).take ((h.toNat - l.toNat) * sz))), need (0 ≤ l ∧ l ≤ h ∧ h ≤ n ∧ n * sz ≤ cs.length ∧ n ≤ maxLen))
        | _ => none
      | _, _, _ => none
    | none => match tyStr P t, (ρ x).str, (match lo with | some l => (ρ l).toVal | none => none), (match hi with | some h => (ρ h).toVal | none => none) with
      | true, some s, some (.int _ l), some (.int _ h) => some (.val (.lit (.string (s.extract l.toNat h.toNat))), need (0 ≤ l ∧ l ≤ h ∧ h ≤ s.size))
      | _, _, _, _ => none
  | .makeSlice t l c => match tyElem P t, (ρ l).toVal, (ρ c).toVal with
    | some (none, e), some (.int .i64 len), some (.int .i64 cap) => match tyZeros P e, tySize P e, P.info? e with
      | some [z], some 1, some i => some (.new nb (List.replicate len.toNat z) (.slc nb 0 len.toNat len.toNat), need (len = cap ∧ 0 ≤ len ∧ len * i.bytes ≤ 2 ^ 47 ∧ len ≤ 2 ^ 62))
      | _, _, _ => none
    | _, _, _ => none
  | .call c => match c.callee with
    | .value f => match callTarget P (ρ f) with
      | some f => some (.call f (c.args.toList.map ρ), .no)
      | none => none
    | .builtin .len => match c.args.toList.map ρ with
      | [.row len _ _] => match c.argTypes.toList with
        | [t] => match tyElem P t with
          | some (none, _) => some (.val (.lit (.int .i64 len)), .no)
          | _ => none
        | _ => none
      | [.slc _ _ len _] => match c.argTypes.toList with
        | [t] => match tyElem P t with
          | some (none, _) => some (.val (.lit (.int .i64 len)), .no)
          | _ => none
        | _ => none
      | [.gsl _ len _] => match c.argTypes.toList with
        | [t] => match tyElem P t with
          | some (none, _) => some (.val (.lit (.int .i64 len)), .no)
          | _ => none
        | _ => none
      | [d] => match d.toVal with
        | some v => match pureRun P (Builtin.len_ c.argTypes o.type #[v]) with
          | some v => some (.val (.lit v), .no)
          | none => none
        | none => none
      | _ => none
    | .builtin .max => match D.toLits (c.args.toList.map ρ) with
      | some vs => match pureRun P (Builtin.max_ c.argTypes o.type vs.toArray) with
        | some v => some (.val (.lit v), .no)
        | none => none
      | none => none
    | .builtin .min => match D.toLits (c.args.toList.map ρ) with
      | some vs => match pureRun P (Builtin.min_ c.argTypes o.type vs.toArray) with
        | some v => some (.val (.lit v), .no)
        | none => none
      | none => none
    | .builtin .append => match c.args.toList.map ρ, c.argTypes.toList with
      | [x, .row m _ ys], [t, t'] => match tyElem P t with
        | some (none, e) => match P.info? e with
          | some i => if t == t' && i.zero.any (fun z => z.cells.size == i.size) && Nat.blt 0 i.size then match x with
              | .row n true xs => if ro then some (.val (.row (n + m) false (xs ++ ys)), need (xs.length = n * i.size ∧ ys.length = m * i.size ∧ n + m ≤ 2 ^ 62 ∧ (n + m) * i.bytes ≤ 2 ^ 47))
                  else some (.new nb (xs ++ ys) (.gsl nb (n + m) i.size), need (0 < m ∧ xs.length = n * i.size ∧ ys.length = m * i.size ∧ n + m ≤ 2 ^ 62 ∧ (n + m) * i.bytes ≤ 2 ^ 47))
              | .gsl b n sz => match blk b with
                | some cs => if sz == i.size && (Nat.ble gb b && ys.all D.cellOk) then some (.grow b (cs ++ ys) (.gsl b (n + m) sz), need (0 < m ∧ cs.length = n * i.size ∧ ys.length = m * i.size ∧ n + m ≤ 2 ^ 62 ∧ (n + m) * i.bytes ≤ 2 ^ 47)) else none
                | none => none
              | _ => none
            else none
          | none => none
        | _ => none
      | _, _ => none
    | _ => none
  | _ => none
end Lw
