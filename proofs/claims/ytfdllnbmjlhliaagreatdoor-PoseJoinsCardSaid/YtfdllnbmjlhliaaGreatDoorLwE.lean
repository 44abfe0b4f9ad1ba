/- 'eff' tells the truth, all operations together. No condition. -/
import Derived.Test.YtfdllnbmjlhliaaGreatDoorLwA
import Derived.Tactics
import Derived.Orders
import Derived.LoopN
import Derived.Deep.LoopGhost
namespace Lw
open Go Go.RowKit

variable {c : Ctx} {n : Nat} {s : FSt} {a : Act} {w : World} {β : Nat → Nat} {X : Nat → Prop}

theorem callTarget_spec {P : Program} {d : D} {f : FuncId} (h : callTarget P d = some f) :
    d = .lit (.func (.func f) #[] #[]) ∧ ∃ fn, P.funcs[f]? = some fn ∧ fn.body.isSome = true ∧ (fn.name == "runtime.NumGoroutine") = false := by
  unfold callTarget at h
  split at h
  · split at h
    · rename_i fn hf
      split at h
      · rename_i hc
        simp only [Option.some.injEq] at h
        subst h
        simp only [Bool.and_eq_true, Bool.not_eq_true', beq_iff_eq] at hc
        rw [Array.eq_empty_of_size_eq_zero hc.1.1, Array.eq_empty_of_size_eq_zero hc.1.2]
        exact ⟨rfl, fn, hf, hc.2.1, hc.2.2⟩
      · cases h
    · cases h
  · cases h

theorem eff_sound (h : RelB c n s a w β X) {o : Oper} {nb : Nat} {ro : Bool} {gb : Nat} (hgb : c.gb ≤ gb) {E : Eff} {nd : Need} (he : eff c.P o s.ev s.blk nb ro gb = some (E, nd)) (hn : nd.ok) :
    EffOk c n s a w β X nb o E := by
  unfold eff at he
  split at he
  case h_1 x ho => simp only [Option.some.injEq, Prod.mk.injEq] at he; obtain ⟨rfl, rfl⟩ := he; exact ok_move h (.inl ho)
  case h_2 x ho => simp only [Option.some.injEq, Prod.mk.injEq] at he; obtain ⟨rfl, rfl⟩ := he; exact ok_move h (.inr ho)
  case h_3 k x y ho =>
    split at he
    · rename_i hk; simp only [Option.some.injEq, Prod.mk.injEq] at he; obtain ⟨rfl, rfl⟩ := he; exact ok_pick h ho true hk
    · rename_i hk; simp only [Option.some.injEq, Prod.mk.injEq] at he; obtain ⟨rfl, rfl⟩ := he; exact ok_pick h ho false hk
    · cases he
  case h_4 el ho =>
    split at he
    · rename_i zs hz
      have := ok_alloc h (nb := nb) (ro := ro) ho hz
      split at he <;> simp only [Option.some.injEq, Prod.mk.injEq] at he <;> obtain ⟨rfl, rfl⟩ := he <;> simp_all
    · cases he
  case h_5 el x ho =>
    split at he
    · rename_i cs hc
      have := ok_box h (nb := nb) (ro := ro) ho hc
      split at he <;> simp only [Option.some.injEq, Prod.mk.injEq] at he <;> obtain ⟨rfl, rfl⟩ := he <;> simp_all
    · cases he
  case h_6 t parts ho =>
    split at he
    · rename_i cs hc; simp only [Option.some.injEq, Prod.mk.injEq] at he; obtain ⟨rfl, rfl⟩ := he; exact ok_build h ho hc
    · cases he
  case h_7 t len parts ho =>
    split at he
    · rename_i cs hc; simp only [Option.some.injEq, Prod.mk.injEq] at he; obtain ⟨rfl, rfl⟩ := he; exact ok_buildSlice h ho hc
    · cases he
  case h_8 t x ho =>
    split at he
    · rename_i sz ag hs ha
      split at he
      · rename_i cs hx; simp only [Option.some.injEq, Prod.mk.injEq] at he; obtain ⟨rfl, rfl⟩ := he
        simp only [need_ok] at hn; exact ok_load_rptr h ho hs ha hx hn.1 hn.2
      · rename_i b off hx
        split at he
        · rename_i cs hb; simp only [Option.some.injEq, Prod.mk.injEq] at he; obtain ⟨rfl, rfl⟩ := he
          simp only [need_ok] at hn; exact ok_load_ptr h ho hs ha hx hb hn.1 hn.2
        · cases he
      · cases he
    · cases he
  case h_9 t x y ho =>
    split at he
    · rename_i b off ds sz hx hy hs
      split at he
      · rename_i cs hb
        split at he
        · rename_i hc; simp only [Option.some.injEq, Prod.mk.injEq] at he; obtain ⟨rfl, rfl⟩ := he
          simp only [Bool.and_eq_true, beq_iff_eq] at hc
          simp only [need_ok] at hn; exact ok_store h ho hs hx hy hb hc.1 hc.2 hn
        · cases he
      · cases he
    · cases he
  case h_10 op t x y u ho =>
    split at he
    · rename_i k p k' q hx hy
      split at he
      · split at he
        · rename_i hk; subst hk; simp only [Option.some.injEq, Prod.mk.injEq] at he; obtain ⟨rfl, rfl⟩ := he
          simp only [need_ok] at hn; exact ok_quo h ho hx hy hn
        · cases he
      · split at he
        · rename_i hk; subst hk; simp only [Option.some.injEq, Prod.mk.injEq] at he; obtain ⟨rfl, rfl⟩ := he
          simp only [need_ok] at hn; exact ok_rem h ho hx hy hn
        · cases he
      · simp only [Option.some.injEq, Prod.mk.injEq] at he; obtain ⟨rfl, rfl⟩ := he
        simp only [need_ok] at hn; exact ok_shl h ho hx hy hn
      · simp only [Option.some.injEq, Prod.mk.injEq] at he; obtain ⟨rfl, rfl⟩ := he
        simp only [need_ok] at hn; exact ok_shr h ho hx hy hn
      · split at he
        · rename_i v hv; simp only [Option.some.injEq, Prod.mk.injEq] at he; obtain ⟨rfl, rfl⟩ := he; exact ok_binOp h ho hx hy hv
        · cases he
    · rename_i va vb _ hx hy
      split at he
      · rename_i v hv; simp only [Option.some.injEq, Prod.mk.injEq] at he; obtain ⟨rfl, rfl⟩ := he; exact ok_binOp h ho hx hy hv
      · cases he
    · cases he
  case h_11 op t x ho =>
    split at he
    · rename_i va hx
      split at he
      · rename_i v hv; simp only [Option.some.injEq, Prod.mk.injEq] at he; obtain ⟨rfl, rfl⟩ := he; exact ok_unOp h ho hx hv
      · cases he
    · cases he
  case h_12 t u x ho =>
    split at he
    · rename_i va hx
      split at he
      · rename_i v hv; simp only [Option.some.injEq, Prod.mk.injEq] at he; obtain ⟨rfl, rfl⟩ := he; exact ok_convert h ho hx hv
      · cases he
    · cases he
  case h_13 t x ho =>
    split at he
    · rename_i va hx
      split at he
      · rename_i v hv; simp only [Option.some.injEq, Prod.mk.injEq] at he; obtain ⟨rfl, rfl⟩ := he; exact ok_makeInterface h ho hx hv
      · cases he
    · cases he
  case h_14 x t u ok ho =>
    split at he
    · rename_i va hx
      split at he
      · rename_i vs hv; simp only [Option.some.injEq, Prod.mk.injEq] at he; obtain ⟨rfl, rfl⟩ := he; exact ok_typeAssert h ho hx hv
      · rename_i v hnt hv; simp only [Option.some.injEq, Prod.mk.injEq] at he; obtain ⟨rfl, rfl⟩ := he
        have := ok_typeAssert h (nb := nb) ho hx hv
        cases v with
        | tuple vs => exact absurd rfl (hnt vs)
        | _ => exact this
      · cases he
    · cases he
  case h_15 t x f ho =>
    split at he
    · rename_i off ft hf
      split at he
      · rename_i sz hs
        split at he
        · rename_i h0
          simp only [Nat.blt_eq] at h0
          split at he
          · rename_i b o' hx; simp only [Option.some.injEq, Prod.mk.injEq] at he; obtain ⟨rfl, rfl⟩ := he; exact ok_fieldAddr_ptr h ho hf hs h0 hx
          · rename_i cs hx; simp only [Option.some.injEq, Prod.mk.injEq] at he; obtain ⟨rfl, rfl⟩ := he; exact ok_fieldAddr_rptr h ho hf hs h0 hx
          · cases he
        · cases he
      · cases he
    · cases he
  case h_16 t x f ho =>
    split at he
    · rename_i off ft cs hf hx
      split at he
      · rename_i sz ag hs ha; simp only [Option.some.injEq, Prod.mk.injEq] at he; obtain ⟨rfl, rfl⟩ := he
        simp only [need_ok] at hn; exact ok_field h ho hf hs ha hx hn
      · cases he
    · cases he
  case h_17 t x ix ho =>
    split at he
    · rename_i e k i ht hix
      split at he
      · rename_i sz hs
        split at he
        · rename_i len full cs hx; simp only [Option.some.injEq, Prod.mk.injEq] at he; obtain ⟨rfl, rfl⟩ := he
          simp only [need_ok] at hn; exact ok_indexAddr_row h ho ht hs hix hx hn.1 hn.2
        · rename_i b off len cap hx; simp only [Option.some.injEq, Prod.mk.injEq] at he; obtain ⟨rfl, rfl⟩ := he
          simp only [need_ok] at hn; exact ok_indexAddr_slc h ho ht hs hix hx hn
        · rename_i b len size hx; simp only [Option.some.injEq, Prod.mk.injEq] at he; obtain ⟨rfl, rfl⟩ := he
          simp only [need_ok] at hn; exact ok_indexAddr_gsl h ho ht hs hix hx hn
        · cases he
      · cases he
    · rename_i m e k i ht hix
      split at he
      · rename_i sz hs
        split at he
        · rename_i cs hx; simp only [Option.some.injEq, Prod.mk.injEq] at he; obtain ⟨rfl, rfl⟩ := he
          simp only [need_ok] at hn; exact ok_indexAddr_rptr h ho ht hs hix hx hn
        · rename_i b off hx; simp only [Option.some.injEq, Prod.mk.injEq] at he; obtain ⟨rfl, rfl⟩ := he
          simp only [need_ok] at hn; exact ok_indexAddr_ptr h ho ht hs hix hx hn
        · cases he
      · cases he
    · cases he
  case h_18 t x ix ho =>
    split at he
    · rename_i k i hix
      split at he
      · rename_i m e cs ht hx
        split at he
        · rename_i sz ag hs ha; simp only [Option.some.injEq, Prod.mk.injEq] at he; obtain ⟨rfl, rfl⟩ := he
          simp only [need_ok] at hn; exact ok_index h ho ht hs ha hix hx hn.1 hn.2
        · cases he
      · rename_i d ht hx
        split at he
        · rename_i b hst hb; simp only [Option.some.injEq, Prod.mk.injEq] at he; obtain ⟨rfl, rfl⟩ := he
          simp only [need_ok] at hn; exact ok_index_str h ho hst hix hb hn
        · cases he
      · cases he
    · cases he
  case h_19 x i ho =>
    split at he
    · rename_i ds hx
      split at he
      · rename_i d hd; simp only [Option.some.injEq, Prod.mk.injEq] at he; obtain ⟨rfl, rfl⟩ := he; exact ok_extract h ho hx hd
      · cases he
    · cases he
  case h_20 t x lo hi ho =>
    split at he
    · rename_i e ht
      split at he
      · rename_i sz len full cs k1 l hs hx hlo
        split at he
        · rename_i k2 u hhi; simp only [Option.some.injEq, Prod.mk.injEq] at he; obtain ⟨rfl, rfl⟩ := he
          simp only [need_ok] at hn; exact ok_slice_row h ho ht hs hx hlo hhi hn
        · cases he
      · rename_i sz b off len cap k1 l hs hx hlo
        split at he
        · rename_i k2 u hhi; simp only [Option.some.injEq, Prod.mk.injEq] at he; obtain ⟨rfl, rfl⟩ := he
          simp only [need_ok] at hn; exact ok_slice_slc h ho ht hs hx hlo hhi hn
        · cases he
      · rename_i sz b len size k1 l hs hx hlo
        split at he
        · rename_i k2 u hhi
          split at he
          · rename_i hl0
            simp only [beq_iff_eq] at hl0
            subst hl0
            simp only [Option.some.injEq, Prod.mk.injEq] at he; obtain ⟨rfl, rfl⟩ := he
            simp only [need_ok] at hn; exact ok_slice_gsl h ho ht hs hx hlo hhi hn
          · cases he
        · cases he
      · cases he
    · rename_i m e ht
      split at he
      · rename_i sz cs k1 l hs hx hlo
        split at he
        · rename_i k2 u hhi; simp only [Option.some.injEq, Prod.mk.injEq] at he; obtain ⟨rfl, rfl⟩ := he
          simp only [need_ok] at hn; exact ok_slice_array h ho ht hs hx hlo hhi hn
        · cases he
      · cases he
    · split at he
      · rename_i b k1 l k2 u hst hx hlo hhi; simp only [Option.some.injEq, Prod.mk.injEq] at he; obtain ⟨rfl, rfl⟩ := he
        simp only [need_ok] at hn; exact ok_slice_str h ho hst hx hlo hhi hn
      · cases he
  case h_21 t l k ho =>
    split at he
    · rename_i e len cap ht hl hk
      split at he
      · rename_i z i hz hs hi; simp only [Option.some.injEq, Prod.mk.injEq] at he; obtain ⟨rfl, rfl⟩ := he
        simp only [need_ok] at hn; exact ok_makeSlice h ho ht hl hk hz hs hi hn
      · cases he
    · cases he
  case h_22 k ho =>
    split at he
    · rename_i x hk
      split at he
      · rename_i f hf
        obtain ⟨h1, fn, h2, h3, h4⟩ := callTarget_spec hf
        simp only [Option.some.injEq, Prod.mk.injEq] at he; obtain ⟨rfl, rfl⟩ := he; exact ok_call h ho hk h1 h2 h3 h4
      · cases he
    · rename_i hk
      split at he
      · rename_i len full xs hl
        obtain ⟨x, hx1, hx2⟩ : ∃ x, k.args.toList = [x] ∧ s.ev x = .row len full xs := by
          cases hk' : k.args.toList with
          | nil => rw [hk'] at hl; cases hl
          | cons x r => cases r with
            | nil => rw [hk'] at hl; simp only [List.map_cons, List.map_nil, List.cons.injEq, and_true] at hl; exact ⟨x, rfl, hl⟩
            | cons y r => rw [hk'] at hl; simp at hl
        split at he
        · rename_i t ht
          split at he
          · rename_i e hte; simp only [Option.some.injEq, Prod.mk.injEq] at he; obtain ⟨rfl, rfl⟩ := he; exact ok_len_row h ho hk hx1 ht hte hx2
          · cases he
        · cases he
      · rename_i b off len cap hl
        obtain ⟨x, hx1, hx2⟩ : ∃ x, k.args.toList = [x] ∧ s.ev x = .slc b off len cap := by
          cases hk' : k.args.toList with
          | nil => rw [hk'] at hl; cases hl
          | cons x r => cases r with
            | nil => rw [hk'] at hl; simp only [List.map_cons, List.map_nil, List.cons.injEq, and_true] at hl; exact ⟨x, rfl, hl⟩
            | cons y r => rw [hk'] at hl; simp at hl
        split at he
        · rename_i t ht
          split at he
          · rename_i e hte; simp only [Option.some.injEq, Prod.mk.injEq] at he; obtain ⟨rfl, rfl⟩ := he; exact ok_len_slc h ho hk hx1 ht hte hx2
          · cases he
        · cases he
      · rename_i b len sz hl
        obtain ⟨x, hx1, hx2⟩ : ∃ x, k.args.toList = [x] ∧ s.ev x = .gsl b len sz := by
          cases hk' : k.args.toList with
          | nil => rw [hk'] at hl; cases hl
          | cons x r => cases r with
            | nil => rw [hk'] at hl; simp only [List.map_cons, List.map_nil, List.cons.injEq, and_true] at hl; exact ⟨x, rfl, hl⟩
            | cons y r => rw [hk'] at hl; simp at hl
        split at he
        · rename_i t ht
          split at he
          · rename_i e hte; simp only [Option.some.injEq, Prod.mk.injEq] at he; obtain ⟨rfl, rfl⟩ := he; exact ok_len_gsl h ho hk hx1 ht hte hx2
          · cases he
        · cases he
      · rename_i d _ _ _ hl
        obtain ⟨x, hx1, hx2⟩ : ∃ x, k.args.toList = [x] ∧ s.ev x = d := by
          cases hk' : k.args.toList with
          | nil => rw [hk'] at hl; cases hl
          | cons x r => cases r with
            | nil => rw [hk'] at hl; simp only [List.map_cons, List.map_nil, List.cons.injEq, and_true] at hl; exact ⟨x, rfl, hl⟩
            | cons y r => rw [hk'] at hl; simp at hl
        split at he
        · rename_i v hv
          split at he
          · rename_i r hr; simp only [Option.some.injEq, Prod.mk.injEq] at he; obtain ⟨rfl, rfl⟩ := he; exact ok_len_lit h ho hk hx1 (by rw [hx2]; exact hv) hr
          · cases he
        · cases he
      · cases he
    · rename_i hk
      split at he
      · rename_i vs hv
        split at he
        · rename_i r hr; simp only [Option.some.injEq, Prod.mk.injEq] at he; obtain ⟨rfl, rfl⟩ := he; exact ok_max h ho hk hv hr
        · cases he
      · cases he
    · rename_i hk
      split at he
      · rename_i vs hv
        split at he
        · rename_i r hr; simp only [Option.some.injEq, Prod.mk.injEq] at he; obtain ⟨rfl, rfl⟩ := he; exact ok_min h ho hk hv hr
        · cases he
      · cases he
    · rename_i hk
      split at he
      · rename_i x0 q full ys t t' hl ht
        obtain ⟨x, y, hx1, hx2, hx3⟩ : ∃ x y, k.args.toList = [x, y] ∧ s.ev x = x0 ∧ s.ev y = .row q full ys := by
          cases hk' : k.args.toList with
          | nil => rw [hk'] at hl; cases hl
          | cons x r => cases r with
            | nil => rw [hk'] at hl; simp at hl
            | cons y r => cases r with
              | nil => rw [hk'] at hl; simp only [List.map_cons, List.map_nil, List.cons.injEq, and_true] at hl; exact ⟨x, y, rfl, hl.1, hl.2⟩
              | cons y r => rw [hk'] at hl; simp at hl
        split at he
        · rename_i e hte
          split at he
          · rename_i i hi
            split at he
            · rename_i hc
              simp only [Bool.and_eq_true, beq_iff_eq, Nat.blt_eq] at hc
              obtain ⟨⟨rfl, hz⟩, h0⟩ := hc
              obtain ⟨z, hzz, hzs⟩ : ∃ z, i.zero = some z ∧ z.cells.size = i.size := by
                cases hz' : i.zero with
                | none => rw [hz'] at hz; simp at hz
                | some z => rw [hz'] at hz; exact ⟨z, rfl, by simpa using hz⟩
              split at he
              · rename_i p xs
                split at he
                · simp only [Option.some.injEq, Prod.mk.injEq] at he; obtain ⟨rfl, rfl⟩ := he
                  simp only [need_ok] at hn; exact ok_append_row h ho hk hx1 ht hte hi hzz hzs h0 hx2 hx3 hn
                · simp only [Option.some.injEq, Prod.mk.injEq] at he; obtain ⟨rfl, rfl⟩ := he
                  simp only [need_ok] at hn; exact ok_append_new h ho hk hx1 ht hte hi hzz hzs h0 hx2 hx3 hn
              · rename_i b p sz
                split at he
                · rename_i cs hb
                  split at he
                  · rename_i hc2
                    simp only [Bool.and_eq_true, beq_iff_eq, Nat.ble_eq] at hc2
                    obtain ⟨rfl, hg2, hok⟩ := hc2
                    simp only [Option.some.injEq, Prod.mk.injEq] at he; obtain ⟨rfl, rfl⟩ := he
                    simp only [need_ok] at hn; exact ok_append_grow h ho hk hx1 ht hte hi hzz hzs h0 hx2 hx3 hb (by omega) hok hn
                  · cases he
                · cases he
              · cases he
            · cases he
          · cases he
        · cases he
      · cases he
    · cases he
  case h_23 => cases he
end Lw

namespace Lw
open Go Go.RowKit

/-- An abstract frame as lists, for the kernel. -/
structure St where
  tmps : List D
  blks : List (Option (List D))
  deriving Inhabited
def St.fs (s : St) : FSt := ⟨fun t => s.tmps.getD t .any, fun b => s.blks.getD b none⟩

/-- How a piece of code ends. -/
inductive XEnd where
  | normal
  | exit (id : Nat)
  | ret
  deriving DecidableEq, Inhabited

/-- What a run meets and what the prover said: these are compared. -/
inductive Got where
  | call (f : FuncId) (args : List D)
  | d (x : D)
  | p (q : Prop)
  | code (c : Code) (n gb : Nat) (ds : List D) (bs : List (Option (List D)))

def topOf (keep : List Nat) : Nat := keep.foldr (fun b m => if Nat.blt b m then m else b + 1) 0
/-- A frame of which few temporaries and own blocks are known. -/
def lay (n : Nat) (l : List (Nat × D)) (bl : List (Nat × List D)) : St :=
  ⟨(List.range n).map fun t => ((l.find? fun p => p.1 == t).map (·.2)).getD .any, (List.range (topOf (bl.map (·.1)))).map fun b => (bl.find? fun p => p.1 == b).map (·.2)⟩
/-- What is promised of a piece of code: from every frame that reads so it comes to this end and to a frame that reads so. -/
def Abs (P : Program) (Good : World → Prop) (n gb : Nat) (k : Code) (s : St) (e : XEnd) (s' : St) : Prop :=
  ∀ (c : Ctx) (Q : Exit → Act → World → Prop) (a : Act) (w : World), c.P = P → c.Good = Good → c.Good c.w0 → c.gb ≤ gb → Rel c n s.fs a w →
    (∀ a' w', Rel c n s'.fs a' w' → Q (match e with | .normal => .normal | .exit id => .exit id | .ret => .ret) a' w') → k.wp P Q a w

/-- What the prover hands to the run, in the order in which the run meets it: a callee's contract; a value rewritten; a proposition that is owed; a loop's promise; a callee to be run in place; an own block that is written no more. -/
inductive Item (P : Program) (Good : World → Prop) where
  | call {f : FuncId} {args : List D} {r : D} (h : Spec P Good f args r)
  | eq (t : Tmp) {d d' : D} (h : d = d')
  | prop {p : Prop} (h : p)
  | code {n gb : Nat} {k : Code} {l : List (Nat × D)} {bl : List (Nat × List D)} {e : XEnd} {s' : St} (h : Abs P Good n gb k (lay n l bl) e s')
  | callN {f : FuncId} {args : List D} {n : Nat} {cs : List D} (h : SpecN P Good f args n cs)
  | inl (ro : List Nat) {f : FuncId} {fn : Func} (hf : P.funcs[f]? = some fn)
  | freeze (b : Nat)

/-- What becomes of an operation: how its temporary and the own blocks turn. -/
inductive Rec where
  | val (d : D)
  | new (b : Nat) (cs : List D) (d : D)
  | store (b off : Nat) (ds : List D)
  | grow (b : Nat) (cs : List D) (d : D)
  | own (d : D)
  | inl (blks : List (Option (List D))) (d : D)
def Rec.put : Rec → D
  | .val d => d
  | .new _ _ d => d
  | .store _ _ _ => .lit undef
  | .grow _ _ d => d
  | .own d => d
  | .inl _ d => d
/-- May it stand in a region whose order is open? -/
def Rec.plain : Rec → Bool
  | .val _ => true
  | .new _ _ _ => true
  | .store _ _ _ => true
  | .grow _ _ _ => false
  | .own _ => false
  | .inl _ _ => false
def splice (cs : List D) (off : Nat) (ds : List D) : List D := cs.take off ++ (ds ++ cs.drop (off + ds.length))

variable {P : Program} {Good : World → Prop}

/-- The need is met by what the prover handed, or by reckoning. -/
def meetNeed (nd : Need) (tr : List (Item P Good)) : Option (List (Item P Good) × List (Got × Got)) :=
  match nd with
  | .no => some (tr, [])
  | .want p b _ => match tr with
    | .prop (p := q) _ :: tr' => some (tr', [(.p p, .p q)])
    | _ => if b then some (tr, []) else none
/-- A value may be rewritten. -/
def rewr (dst : Option Tmp) (d : D) (tr : List (Item P Good)) : D × List (Item P Good) × List (Got × Got) :=
  match tr with
  | .eq t (d := x) (d' := y) _ :: tr' => if dst == some t then (y, tr', [(.d d, .d x)]) else (d, tr, [])
  | _ => (d, tr, [])
/-- An argument as the callee reads it. -/
def D.rowOf (blk : Nat → Option (List D)) (d : D) : D :=
  match d.ref with
  | some b => match blk b with
    | some cs => d.thaw b cs
    | none => .any
  | none => d.relax
def D.flat : D → Bool
  | .lit _ => true
  | _ => false
/-- How callees are run in place. -/
abbrev Inline (P : Program) (Good : World → Prop) := List Nat → Func → List D → List (Option (List D)) → List (Item P Good) → Option (D × List (Option (List D)) × List (Item P Good) × List (Got × Got))
def meetEff (inl : Inline P Good) (blk : Nat → Option (List D)) (blks : List (Option (List D))) (dst : Option Tmp) (E : Eff) (tr : List (Item P Good)) : Option (Rec × List (Item P Good) × List (Got × Got)) :=
  match E with
  | .val d => match rewr dst d tr with
    | (d', tr', eqs) => some (.val d', tr', eqs)
  | .new b cs d => some (.new b cs d, tr, [])
  | .store b off ds => some (.store b off ds, tr, [])
  | .grow b cs d => some (.grow b cs d, tr, [])
  | .call f args => match tr with
    | .call (f := g) (args := xs) (r := r) _ :: tr' =>
      if args.any (fun d => d.ref.isSome) then (if r.flat then some (.own r, tr', [(.call f (args.map (D.rowOf blk)), .call g xs)]) else none)
      else match rewr dst r tr' with
        | (d', tr'', eqs) => some (.val d', tr'', (.call f (args.map D.relax), .call g xs) :: eqs)
    | .callN (f := g) (args := xs) (n := n) (cs := cs) _ :: tr' =>
      if args.any (fun d => d.ref.isSome) then none else some (.new blks.length cs (.slc blks.length 0 n n), tr', [(.call f (args.map D.relax), .call g xs)])
    | .inl ro (f := g) (fn := fn) _ :: tr' => match inl ro fn args blks tr' with
      | some (d, blks', tr'', eqs) => some (.inl blks' d, tr'', (.call f [], .call g []) :: eqs)
      | none => none
    | _ => none
/-- Does the guard let the operation by? -/
def guardSays (ops : Array Oper) (o : Oper) (tmp : Nat → D) : Option Bool :=
  match o.guard with
  | none => some true
  | some (j, want) => match (ops[j]?).bind (·.dst) with
    | some t => match tmp t with
      | .lit (.bool b) => some (b == want)
      | .lit (.tuple _) => some false
      | _ => none
    | none => none
def opRec (P : Program) {Good : World → Prop} (inl : Inline P Good) (ops : Array Oper) (o : Oper) (ro : List Nat) (gb : Nat) (s : FSt) (blks : List (Option (List D))) (tr : List (Item P Good)) : Option (Rec × List (Item P Good) × List (Got × Got)) :=
  match guardSays ops o s.tmp with
  | some true => match eff P o s.ev s.blk blks.length (match o.dst with | some t => ro.contains t | none => false) gb with
    | some (E, nd) => match meetNeed nd tr with
      | some (tr1, eqs1) => match meetEff inl s.blk blks o.dst E tr1 with
        | some (R, tr2, eqs2) => some (R, tr2, eqs1 ++ eqs2)
        | none => none
      | none => none
    | none => none
  | some false => some (.val (.lit undef), tr, [])
  | none => none

/-- The frame behind an operation. -/
def FSt.app (s : FSt) (n : Nat) (dst : Option Tmp) (R : Rec) : FSt :=
  match R with
  | .val d => s.put n dst d
  | .new b cs d => (s.setBlk b (some cs)).put n dst d
  | .store b off ds => (s.setBlk b ((s.blk b).map fun cs => splice cs off ds)).put n dst (.lit undef)
  | .grow b cs d => ((s.clear b).setBlk b (some cs)).put n dst d
  | .own d => s.put n dst d
  | .inl blks d => (⟨s.tmp, fun b => blks.getD b none⟩ : FSt).put n dst d

/-- What a callee that is run in place does. -/
def Inl (P : Program) (Good : World → Prop) (fn : Func) (args : List D) (blks : List (Option (List D))) (d : D) (blks' : List (Option (List D))) : Prop :=
  ∀ (f : FuncId), P.funcs[f]? = some fn → ∀ (c : Ctx) (w : World) (β : Nat → Nat) (X : Nat → Prop) (vals : List Value), c.P = P → c.Good = Good → c.Good c.w0 → c.gb ≤ blks.length →
    RelB c 0 ⟨fun _ => .any, fun b => blks.getD b none⟩ ⟨#[], []⟩ w β X → vals.length = args.length → (∀ i (h : i < vals.length) (h' : i < args.length), RepV β w X vals[i] args[i]) →
    (∀ d ∈ args, ∀ b, d.ref = some b → (blks.getD b none).isSome = true) →
    Calls P f vals.toArray w fun e w' => ∃ v β' X', e = .returned v ∧ RelB c 0 ⟨fun _ => .any, fun b => blks'.getD b none⟩ ⟨#[], []⟩ w' β' X' ∧ RepV β' w' X' v d ∧
      ∀ b, d.ref = some b → (blks'.getD b none).isSome = true

/-- All that was compared agrees. -/
def Agree (eqs : List (Got × Got)) : Prop := ∀ e ∈ eqs, e.1 = e.2
theorem Agree.append {l l' : List (Got × Got)} (h : Agree (l ++ l')) : Agree l ∧ Agree l' :=
  ⟨fun e he => h e (List.mem_append_left _ he), fun e he => h e (List.mem_append_right _ he)⟩
def InlOk (P : Program) (Good : World → Prop) (inl : Inline P Good) : Prop :=
  ∀ ro fn args blks tr d blks' tr' eqs, inl ro fn args blks tr = some (d, blks', tr', eqs) → Agree eqs → Inl P Good fn args blks d blks'

theorem meetNeed_ok {nd : Need} {tr tr' : List (Item P Good)} {eqs : List (Got × Got)} (h : meetNeed nd tr = some (tr', eqs)) (he : Agree eqs) : nd.ok := by
  cases nd with
  | no => trivial
  | want p b hb =>
    simp only [meetNeed] at h
    split at h
    · rename_i q hq _
      simp only [Option.some.injEq, Prod.mk.injEq] at h
      obtain ⟨rfl, rfl⟩ := h
      have := he _ (List.mem_cons_self ..)
      simp only [Got.p.injEq] at this
      show p
      rw [this]; exact hq
    · split at h
      · rename_i hbt; exact hb hbt
      · cases h
theorem rewr_ok {dst : Option Tmp} {d d' : D} {tr tr' : List (Item P Good)} {eqs : List (Got × Got)} (h : rewr dst d tr = (d', tr', eqs)) (he : Agree eqs) : d' = d := by
  unfold rewr at h
  split at h
  · rename_i t x y hxy _
    split at h
    · simp only [Prod.mk.injEq] at h
      obtain ⟨rfl, rfl, rfl⟩ := h
      have := he _ (List.mem_cons_self ..)
      simp only [Got.d.injEq] at this
      rw [this]; exact hxy.symm
    · simp only [Prod.mk.injEq] at h; exact h.1.symm
  · simp only [Prod.mk.injEq] at h; exact h.1.symm

theorem thaw_own {d : D} {b : Nat} {cs : List D} (h : d.ref = some b) : (d.thaw b cs).ref = none := by
  cases d <;> simp only [D.ref, Option.some.injEq, reduceCtorEq] at h <;> subst h <;> simp [D.thaw, D.ref]
theorem rowOf_rep {c : Ctx} {n : Nat} {s : FSt} {a : Act} {w : World} {β : Nat → Nat} {X : Nat → Prop} (h : RelB c n s a w β X) {F : Nat → Prop} {v : Value} {d : D} (hv : RepV β w X v d)
    (hF : ∀ k, F k → X k) (hne : ∀ b, d.ref = some b → ∀ k, F k → k ≠ β b) : RepP w F v (d.rowOf s.blk) := by
  unfold D.rowOf
  split
  · rename_i b hb
    split
    · rename_i cs hcs
      obtain ⟨_, _, us, e, h3, _, h5⟩ := h.blk b cs hcs
      exact ((thaw_rep h3 h5 hv).pure (thaw_own hb)).mono fun a u hu hx => ⟨hu, fun hf => hx ⟨hF _ hf, hne b hb _ hf⟩⟩
    · exact .any _
  · rename_i hb
    exact relax_rep ((hv.pure hb).mono fun a u hu hx => ⟨hu, fun hf => hx (hF _ hf)⟩)

/-- What the operation does to the concrete frame. -/
theorem opRec_sound {c : Ctx} {n : Nat} {s : FSt} {a : Act} {w : World} {inl : Inline P Good} (hinl : InlOk P Good inl) (hP : c.P = P) (hGd : c.Good = Good) (hG : Steady Good) (h0 : c.Good c.w0) {gb : Nat} (hgb : c.gb ≤ gb) (h : Rel c n s a w)
    {ops : Array Oper} {o : Oper} {ro : List Nat} {blks : List (Option (List D))} {tr tr' : List (Item P Good)} {R : Rec} {eqs : List (Got × Got)}
    (hr : opRec P inl ops o ro gb s blks tr = some (R, tr', eqs)) (he : Agree eqs) (hnb : ∀ b cs d, R = .new b cs d → s.blk b = none)
    (hbl : ∀ bl d, R = .inl bl d → (∀ b, s.blk b = blks.getD b none) ∧ ∀ t, n ≤ t → s.tmp t = .any) {Q : Exit → Act → World → Prop} {K : Act → World → Prop}
    (hK : ∀ a' w', Rel c n (s.app n o.dst R) a' w' → K a' w') :
    if Region.wanted o (yielded ops a.tmps) then o.wp P a w K Q else K (a.put o.dst undef) w := by
  subst hP hGd
  obtain ⟨β, X, h⟩ := h
  unfold opRec at hr
  have hguard : ∀ b, guardSays ops o s.tmp = some b → Region.wanted o (yielded ops a.tmps) = b := by
    intro b hb
    unfold guardSays at hb
    unfold Region.wanted
    split at hb
    · rename_i hg; simp only [Option.some.injEq] at hb; rw [hg]; exact hb
    · rename_i j want hg
      rw [hg]
      split at hb
      · rename_i t ht
        have hv := h.tmp t
        have hy : yielded ops a.tmps j = match a.tmps[t]? with | some (.bool b) => some b | _ => none := by unfold yielded; rw [ht]; rfl
        split at hb
        · rename_i b' hd
          simp only [Option.some.injEq] at hb
          rw [hd] at hv
          have e := toVal_eq (hv.pure rfl) (v := .bool b') rfl
          have : a.tmps[t]? = some (.bool b') := by
            cases hq : a.tmps[t]? with
            | none => simp [Array.getD_eq_getD_getElem?, hq, undef] at e
            | some v => simp [Array.getD_eq_getD_getElem?, hq] at e; rw [e]
          rw [this] at hy
          simp only [hy]
          rw [← hb]
          cases b' <;> cases want <;> rfl
        · rename_i vs hd
          simp only [Option.some.injEq] at hb
          rw [hd] at hv
          have e := toVal_eq (hv.pure rfl) (v := .tuple vs) rfl
          have : yielded ops a.tmps j = none := by
            rw [hy]
            cases hq : a.tmps[t]? with
            | none => rfl
            | some v => simp [Array.getD_eq_getD_getElem?, hq] at e; rw [e]
          simp only [this]
          rw [← hb]
          cases want <;> rfl
        · cases hb
      · cases hb
  split at hr
  · rename_i hg
    rw [if_pos (hguard _ hg)]
    split at hr
    · rename_i E nd hE
      split at hr
      · rename_i tr1 eqs1 hn
        split at hr
        · rename_i R' tr2 eqs2 hm
          simp only [Option.some.injEq, Prod.mk.injEq] at hr
          obtain ⟨rfl, rfl, rfl⟩ := hr
          obtain ⟨he1, he2⟩ := he.append
          have hok := eff_sound h hgb hE (meetNeed_ok hn he1)
          unfold Oper.wp
          cases E with
          | val d =>
            obtain ⟨v, w', hrun, hb, hv, hnd⟩ := hok
            simp only [meetEff] at hm
            generalize hrw : rewr o.dst d tr1 = q at hm
            obtain ⟨d', tr3, eqs3⟩ := q
            simp only [Option.some.injEq, Prod.mk.injEq] at hm
            obtain ⟨rfl, rfl, rfl⟩ := hm
            obtain rfl := rewr_ok hrw he2
            rw [hrun, Oper.upon_value]
            exact hK _ _ ⟨β, X, (h.grow hb).put hv hnd⟩
          | new b cs d =>
            obtain ⟨rfl, w1, us, e, v, hrun, hb1, hs1, hle, hreps, hd, hv⟩ := hok
            simp only [meetEff, Option.some.injEq, Prod.mk.injEq] at hm
            obtain ⟨rfl, rfl, rfl⟩ := hm
            rw [hrun, Oper.upon_value]
            have hnew := (h.grow hb1).new blks.length (hnb _ cs d rfl) e us cs hle (hreps.mono (stays_below hb1))
            refine hK _ _ ⟨_, _, hnew.put (hv _ _ _ (by simp [hs1]) ?_) (fun b' hb' => ?_)⟩
            · rw [← hs1]; exact shape_of_cells (heap_alloc_new w1 _)
            · rw [hd] at hb'
              simp only [Option.some.injEq] at hb'
              subst hb'
              simp [FSt.setBlk]
          | store b off ds =>
            obtain ⟨cs, us, us', e, hb, hu, hrun, hsz, hle, hlu, hreps⟩ := hok
            simp only [meetEff, Option.some.injEq, Prod.mk.injEq] at hm
            obtain ⟨rfl, rfl, rfl⟩ := hm
            rw [hrun, Oper.upon_skip]
            have hlen : (cs.take off ++ (ds ++ cs.drop (off + ds.length))).length = cs.length := by simp; omega
            have hst := h.store b cs (cs.take off ++ (ds ++ cs.drop (off + ds.length))) hb us us' e hu hsz (by omega) (by rw [hlen]; exact hreps)
            refine hK _ _ ⟨β, X, ?_⟩
            have : (s.app n o.dst (.store b off ds)) = (s.setBlk b (some (cs.take off ++ (ds ++ cs.drop (off + ds.length))))).put n o.dst (.lit undef) := by
              simp [FSt.app, hb, splice]
            rw [this]
            exact hst.put (.p (.lit undef)) (fun b' hb' => by simp [D.ref] at hb')
          | grow b cs d =>
            obtain ⟨v, w', β', X', hrun, hrel, hv, hd⟩ := hok
            simp only [meetEff, Option.some.injEq, Prod.mk.injEq] at hm
            obtain ⟨rfl, rfl, rfl⟩ := hm
            rw [hrun, Oper.upon_value]
            refine hK _ _ ⟨β', X', hrel.put hv (fun b' hb' => ?_)⟩
            rw [hd] at hb'
            simp only [Option.some.injEq] at hb'
            subst hb'
            simp [FSt.setBlk]
          | call f args =>
            obtain ⟨vals, hrun, hvl, hreps, hlive⟩ := hok
            simp only [meetEff] at hm
            split at hm
            · rename_i g xs r hspec tr3
              split at hm
              · split at hm
                · rename_i hflat
                  simp only [Option.some.injEq, Prod.mk.injEq] at hm
                  obtain ⟨rfl, rfl, rfl⟩ := hm
                  have h1 := he2 _ (List.mem_cons_self ..)
                  simp only [Got.call.injEq] at h1
                  obtain ⟨rfl, rfl⟩ := h1
                  rw [hrun, Oper.upon_enter]
                  refine (hspec w (fun k => X k ∧ ∀ d ∈ args, ∀ b, d.ref = some b → k ≠ β b) vals (h.good hG h0) ⟨by simpa using hvl, fun i h1 h2 => ?_⟩ (fun k hk => h.Xlt k hk.1)).mono fun e w' hend => ?_
                  · rw [List.getElem_map]
                    exact rowOf_rep h (hreps i h1 (by simpa using h2)) (fun k hk => hk.1) (fun b hb k hk => hk.2 _ (List.getElem_mem _) b hb)
                  · obtain ⟨v, rfl, hv, hb, _⟩ := hend
                    cases r <;> simp only [D.flat, Bool.false_eq_true] at hflat
                    cases hv
                    exact hK _ _ ⟨β, X, (h.grow hb).put (.p (.lit _)) (fun b' hb' => by simp [D.ref] at hb')⟩
                · cases hm
              · rename_i hown
                have hno : ∀ d ∈ args, d.ref = none := by
                  intro d hd
                  simp only [List.any_eq_true, not_exists, not_and, Bool.not_eq_true] at hown
                  have := hown d hd
                  cases hq : d.ref with
                  | none => rfl
                  | some b => rw [hq] at this; cases this
                generalize hrw : rewr o.dst r tr3 = q at hm
                obtain ⟨d', tr4, eqs3⟩ := q
                simp only [Option.some.injEq, Prod.mk.injEq] at hm
                obtain ⟨rfl, rfl, rfl⟩ := hm
                have h1 := he2 _ (List.mem_cons_self ..)
                simp only [Got.call.injEq] at h1
                obtain ⟨rfl, rfl⟩ := h1
                obtain rfl := rewr_ok hrw (fun e he' => he2 e (List.mem_cons_of_mem _ he'))
                rw [hrun, Oper.upon_enter]
                refine (hspec w X vals (h.good hG h0) ⟨by simpa using hvl, fun i h1 h2 => ?_⟩ h.Xlt).mono fun e w' hend => ?_
                · rw [List.getElem_map]
                  exact relax_rep ((hreps i h1 (by simpa using h2)).pure (hno _ (List.getElem_mem _)))
                · obtain ⟨v, rfl, hv, hb, _⟩ := hend
                  exact hK _ _ ⟨β, X, (h.grow hb).put (.p hv) (fun b' hb' => by rw [repP_ref hv] at hb'; cases hb')⟩
            · rename_i g xs m cs hspec tr3
              split at hm
              · cases hm
              · rename_i hown
                have hno : ∀ d ∈ args, d.ref = none := by
                  intro d hd
                  simp only [List.any_eq_true, not_exists, not_and, Bool.not_eq_true] at hown
                  have := hown d hd
                  cases hq : d.ref with
                  | none => rfl
                  | some b => rw [hq] at this; cases this
                simp only [Option.some.injEq, Prod.mk.injEq] at hm
                obtain ⟨rfl, rfl, rfl⟩ := hm
                have h1 := he2 _ (List.mem_cons_self ..)
                simp only [Got.call.injEq] at h1
                obtain ⟨rfl, rfl⟩ := h1
                rw [hrun, Oper.upon_enter]
                refine (hspec w X vals (h.good hG h0) ⟨by simpa using hvl, fun i h1 h2 => ?_⟩ h.Xlt).mono fun e w' hend => ?_
                · rw [List.getElem_map]
                  exact relax_rep ((hreps i h1 (by simpa using h2)).pure (hno _ (List.getElem_mem _)))
                · obtain ⟨k, us, ty, rfl, hm1, hk, hu, hle, hrr, hb, _⟩ := hend
                  have hnew := h.adopt hb blks.length (hnb _ _ _ rfl) hk hu hle hrr
                  refine hK _ _ ⟨_, _, hnew.put (v := .slice (some ⟨k, 0, none⟩) m m) ?_ (fun b' hb' => ?_)⟩
                  · have := RepV.slc (β := fun j => if j = blks.length then k else β j) (w := w') (X := fun j => X j ∨ j = k) blks.length 0 m m (Nat.le_refl _) hm1
                    simp only [if_true] at this
                    exact this
                  · simp only [D.ref, Option.some.injEq] at hb'
                    subst hb'
                    simp [FSt.setBlk]
            · rename_i ro' g fn hf tr3
              split at hm
              · rename_i d blks' tr4 eqs3 hi
                simp only [Option.some.injEq, Prod.mk.injEq] at hm
                obtain ⟨rfl, rfl, rfl⟩ := hm
                obtain ⟨hbk, htn⟩ := hbl _ _ rfl
                have h1 := he2 _ (List.mem_cons_self ..)
                simp only [Got.call.injEq, and_true] at h1
                subst h1
                have hin := hinl _ _ _ _ _ _ _ _ _ hi (fun e he' => he2 e (List.mem_cons_of_mem _ he'))
                rw [hrun, Oper.upon_enter]
                let gh' : List (Value × D) := ((List.range n).map fun t => (a.tmps.getD t undef, s.tmp t)) ++ c.gh
                have hbs : (fun b => blks.getD b none) = s.blk := funext fun b => (hbk b).symm
                have hlt : ∀ b, (s.blk b).isSome = true → b < blks.length := fun b hb => by
                  rw [hbk b] at hb
                  rcases Nat.lt_or_ge b blks.length with h | h
                  · exact h
                  · rw [List.getD_eq_getElem?_getD, List.getElem?_eq_none h] at hb; simp at hb
                have hstart : RelB { c with gh := gh', gb := blks.length } 0 ⟨fun _ => .any, fun b => blks.getD b none⟩ ⟨#[], []⟩ w β X := by
                  rw [hbs]
                  refine ⟨rfl, rfl, fun t => .p (.any _), fun t b hb => by simp [D.ref] at hb, h.blk, h.inj, h.F, h.Flt, h.Xlt, h.below, fun p hp => ?_, fun p hp b hb => ?_⟩
                  · rcases List.mem_append.1 hp with hp | hp
                    · obtain ⟨t, _, rfl⟩ := List.mem_map.1 hp; exact h.tmp t
                    · exact h.gh p hp
                  · have : (s.blk b).isSome = true := by
                      rcases List.mem_append.1 hp with hp | hp
                      · obtain ⟨t, _, rfl⟩ := List.mem_map.1 hp; exact h.nd t b hb
                      · exact (h.ghnd p hp b hb).2
                    exact ⟨hlt b this, this⟩
                refine (hin f hf { c with gh := gh', gb := blks.length } w β X vals rfl rfl h0 (Nat.le_refl _) hstart hvl hreps (fun d hd b hb => by rw [← hbk]; exact hlive d hd b hb)).mono fun e w' hend => ?_
                obtain ⟨v, β', X', rfl, hrel, hv, hd⟩ := hend
                have hback : RelB c n ⟨s.tmp, fun b => blks'.getD b none⟩ a w' β' X' := by
                  refine ⟨h.defers, h.size, fun t => ?_, fun t b hb => ?_, hrel.blk, hrel.inj, hrel.F, hrel.Flt, hrel.Xlt, hrel.below, fun p hp => hrel.gh p (List.mem_append_right _ hp), fun p hp b hb => ?_⟩
                  · by_cases ht : t < n
                    · exact hrel.gh (a.tmps.getD t undef, s.tmp t) (List.mem_append_left _ (List.mem_map.2 ⟨t, by simpa using ht, rfl⟩))
                    · show RepV β' w' X' _ (s.tmp t)
                      rw [htn t (by omega)]; exact .p (.any _)
                  · by_cases ht : t < n
                    · exact (hrel.ghnd (a.tmps.getD t undef, s.tmp t) (List.mem_append_left _ (List.mem_map.2 ⟨t, by simpa using ht, rfl⟩)) b hb).2
                    · have hb' : (s.tmp t).ref = some b := hb
                      rw [htn t (by omega)] at hb'; simp [D.ref] at hb'
                  · exact ⟨(h.ghnd p hp b hb).1, (hrel.ghnd p (List.mem_append_right _ hp) b hb).2⟩
                exact hK _ _ ⟨β', X', hback.put hv hd⟩
              · cases hm
            · cases hm
        · cases hr
      · cases hr
    · cases hr
  · rename_i hg
    rw [hguard _ hg]
    simp only [Option.some.injEq, Prod.mk.injEq] at hr
    obtain ⟨rfl, rfl, rfl⟩ := hr
    exact hK _ _ ⟨β, X, h.put (.p (.lit undef)) (fun b' hb' => by simp [D.ref] at hb')⟩
  · cases hr

def D.clear (b : Nat) (d : D) : D := if d.ref == some b then .any else d
/-- The same on lists. -/
def St.app (s : St) (dst : Option Tmp) (R : Rec) : St :=
  let put (l : List D) (d : D) : List D := match dst with | some t => l.set t d | none => l
  match R with
  | .val d => { s with tmps := put s.tmps d }
  | .new _ cs d => { tmps := put s.tmps d, blks := s.blks ++ [some cs] }
  | .store b off ds => { tmps := put s.tmps (.lit undef), blks := match s.blks.getD b none with | some cs => s.blks.set b (some (splice cs off ds)) | none => s.blks }
  | .grow b cs d => { tmps := put (s.tmps.map (D.clear b)) d, blks := s.blks.set b (some cs) }
  | .own d => { s with tmps := put s.tmps d }
  | .inl blks d => { tmps := put s.tmps d, blks := blks }

theorem getD_set_tmp (l : List D) (t u : Nat) (d : D) : (l.set t d).getD u .any = if some t = some u ∧ u < l.length then d else l.getD u .any := by
  simp only [List.getD_eq_getElem?_getD, List.getElem?_set]
  by_cases h : t = u
  · subst h
    by_cases h2 : t < l.length
    · simp [h2]
    · simp [h2]
  · simp [h]
theorem getD_set_blk (l : List (Option (List D))) (b k : Nat) (x : Option (List D)) (h : b < l.length) : (l.set b x).getD k none = if k = b then x else l.getD k none := by
  simp only [List.getD_eq_getElem?_getD, List.getElem?_set]
  by_cases hk : k = b
  · subst hk; simp [h]
  · rw [if_neg (Ne.symm hk), if_neg hk]
theorem lt_of_live {l : List (Option (List D))} {b : Nat} {cs : List D} (h : l.getD b none = some cs) : b < l.length := by
  rcases Nat.lt_or_ge b l.length with h' | h'
  · exact h'
  · rw [List.getD_eq_getElem?_getD, List.getElem?_eq_none h'] at h; cases h
theorem St.app_fs (s : St) (dst : Option Tmp) (R : Rec) (hb : ∀ b cs d, R = .new b cs d → b = s.blks.length) (hg : ∀ b cs d, R = .grow b cs d → b < s.blks.length) :
    (s.app dst R).fs = s.fs.app s.tmps.length dst R ∧ (s.app dst R).tmps.length = s.tmps.length := by
  have hput : ∀ (l : List D) (d : D), l.length = s.tmps.length → (fun t => (match dst with | some t => l.set t d | none => l).getD t .any) = fun t => if dst = some t ∧ t < s.tmps.length then d else l.getD t .any := by
    intro l d hl
    funext u
    cases dst with
    | none => simp
    | some t => rw [← hl]; exact getD_set_tmp l t u d
  have hlen : ∀ (l : List D) d, l.length = s.tmps.length → (match dst with | some t => l.set t d | none => l).length = s.tmps.length := by intro l d hl; cases dst <;> simp [hl]
  cases R with
  | val d => exact ⟨by simp only [St.app, St.fs, FSt.app, FSt.put, hput s.tmps d rfl], hlen _ d rfl⟩
  | own d => exact ⟨by simp only [St.app, St.fs, FSt.app, FSt.put, hput s.tmps d rfl], hlen _ d rfl⟩
  | inl blks d => exact ⟨by simp only [St.app, St.fs, FSt.app, FSt.put, hput s.tmps d rfl], hlen _ d rfl⟩
  | new b cs d =>
    obtain rfl := hb b cs d rfl
    refine ⟨?_, hlen _ d rfl⟩
    simp only [St.app, St.fs, FSt.app, FSt.put, FSt.setBlk, hput s.tmps d rfl]
    congr 1
    funext k
    by_cases hk : k = s.blks.length
    · subst hk; simp [List.getD_eq_getElem?_getD]
    · rw [if_neg hk]
      simp only [List.getD_eq_getElem?_getD]
      by_cases h2 : k < s.blks.length
      · rw [List.getElem?_append_left h2]
      · rw [List.getElem?_eq_none (by simp; omega), List.getElem?_eq_none (by omega)]
  | grow b cs d =>
    have hlt := hg b cs d rfl
    refine ⟨?_, hlen _ d (by simp)⟩
    simp only [St.app, St.fs, FSt.app, FSt.put, FSt.setBlk, FSt.clear, hput (s.tmps.map (D.clear b)) d (by simp)]
    congr 1
    · funext t
      split
      · rfl
      · simp only [List.getD_eq_getElem?_getD, List.getElem?_map]
        cases s.tmps[t]? with
        | none => simp [D.ref]
        | some x => simp [D.clear]
    · funext k; exact getD_set_blk s.blks b k _ hlt
  | store b off ds =>
    refine ⟨?_, hlen _ _ rfl⟩
    simp only [St.app, St.fs, FSt.app, FSt.put, FSt.setBlk, hput s.tmps _ rfl]
    congr 1
    funext k
    cases hbk : s.blks.getD b none with
    | none =>
      by_cases hk : k = b
      · rw [hk, if_pos rfl, hbk]; rfl
      · rw [if_neg hk]
    | some cs => exact getD_set_blk s.blks b k _ (lt_of_live hbk)

/-- The block that an operation looks at or writes. -/
def accOf (o : Oper) (ρ : Operand → D) : Option Nat :=
  match o.op with
  | .load _ x => match ρ x with | .ptr b _ => some b | _ => none
  | .store _ x _ => match ρ x with | .ptr b _ => some b | _ => none
  | _ => none

/-- The operations one behind the other; also what became of each, and which block it met. -/
def runOps (P : Program) {Good : World → Prop} (inl : Inline P Good) (ops : Array Oper) (ro : List Nat) (gb : Nat) : List Oper → St → List (Item P Good) → Option (St × List (Item P Good) × List (Got × Got) × List (Rec × Option Nat))
  | [], s, tr => some (s, tr, [], [])
  | o :: rest, s, tr => match opRec P inl ops o ro gb s.fs s.blks tr with
    | some (R, tr1, eqs1) => match runOps P inl ops ro gb rest (s.app o.dst R) tr1 with
      | some (s', tr2, eqs2, recs) => some (s', tr2, eqs1 ++ eqs2, (R, accOf o s.fs.ev) :: recs)
      | none => none
    | none => none

theorem eff_new {o : Oper} {ρ : Operand → D} {blk : Nat → Option (List D)} {nb : Nat} {ro : Bool} {gb b : Nat} {cs : List D} {d : D} {nd : Need}
    (h : eff P o ρ blk nb ro gb = some (.new b cs d, nd)) : b = nb := by
  unfold eff at h
  repeat' split at h
  all_goals first | (cases h; done) | (simp only [Option.some.injEq, Prod.mk.injEq, Eff.new.injEq] at h; exact h.1.1.symm)
theorem eff_grow {o : Oper} {ρ : Operand → D} {blk : Nat → Option (List D)} {nb : Nat} {ro : Bool} {gb b : Nat} {cs : List D} {d : D} {nd : Need}
    (h : eff P o ρ blk nb ro gb = some (.grow b cs d, nd)) : ∃ cs', blk b = some cs' := by
  unfold eff at h
  repeat' split at h
  all_goals first | (cases h; done) | (simp only [Option.some.injEq, Prod.mk.injEq, Eff.grow.injEq] at h; obtain ⟨⟨rfl, -, -⟩, -⟩ := h; exact ⟨_, by assumption⟩)
theorem opRec_new {inl : Inline P Good} {ops : Array Oper} {o : Oper} {ro : List Nat} {gb : Nat} {s : FSt} {blks : List (Option (List D))} {tr tr' : List (Item P Good)} {eqs : List (Got × Got)} {R : Rec}
    (h : opRec P inl ops o ro gb s blks tr = some (R, tr', eqs)) : (∀ b cs d, R = .new b cs d → b = blks.length) ∧ (∀ b cs d, R = .grow b cs d → ∃ cs', s.blk b = some cs') := by
  unfold opRec at h
  split at h
  · split at h
    · rename_i E nd hE
      split at h
      · split at h
        · rename_i R2 tr2 eqs2 hm
          simp only [Option.some.injEq, Prod.mk.injEq] at h
          obtain ⟨rfl, -, -⟩ := h
          cases E with
          | val d => simp only [meetEff, Option.some.injEq, Prod.mk.injEq] at hm; obtain ⟨rfl, -, -⟩ := hm; exact ⟨(fun _ _ _ h => by cases h), (fun _ _ _ h => by cases h)⟩
          | new b' cs' d' =>
            simp only [meetEff, Option.some.injEq, Prod.mk.injEq] at hm
            obtain ⟨rfl, -, -⟩ := hm
            exact ⟨(fun _ _ _ h => by cases h; exact eff_new hE), (fun _ _ _ h => by cases h)⟩
          | store => simp only [meetEff, Option.some.injEq, Prod.mk.injEq] at hm; obtain ⟨rfl, -, -⟩ := hm; exact ⟨(fun _ _ _ h => by cases h), (fun _ _ _ h => by cases h)⟩
          | grow b' cs' d' =>
            simp only [meetEff, Option.some.injEq, Prod.mk.injEq] at hm
            obtain ⟨rfl, -, -⟩ := hm
            exact ⟨(fun _ _ _ h => by cases h), (fun _ _ _ h => by cases h; exact eff_grow hE)⟩
          | call f args =>
            simp only [meetEff] at hm
            split at hm
            · split at hm
              · split at hm
                · simp only [Option.some.injEq, Prod.mk.injEq] at hm; obtain ⟨rfl, -, -⟩ := hm; exact ⟨(fun _ _ _ h => by cases h), (fun _ _ _ h => by cases h)⟩
                · cases hm
              · simp only [Option.some.injEq, Prod.mk.injEq] at hm; obtain ⟨rfl, -, -⟩ := hm; exact ⟨(fun _ _ _ h => by cases h), (fun _ _ _ h => by cases h)⟩
            · split at hm
              · cases hm
              · simp only [Option.some.injEq, Prod.mk.injEq] at hm; obtain ⟨rfl, -, -⟩ := hm; exact ⟨(fun _ _ _ h => by cases h; rfl), (fun _ _ _ h => by cases h)⟩
            · split at hm
              · simp only [Option.some.injEq, Prod.mk.injEq] at hm; obtain ⟨rfl, -, -⟩ := hm; exact ⟨(fun _ _ _ h => by cases h), (fun _ _ _ h => by cases h)⟩
              · cases hm
            · cases hm
        · cases h
      · cases h
    · cases h
  · simp only [Option.some.injEq, Prod.mk.injEq] at h; obtain ⟨rfl, -, -⟩ := h; exact ⟨(fun _ _ _ h => by cases h), (fun _ _ _ h => by cases h)⟩
  · cases h
theorem blk_len_none (s : St) : s.fs.blk s.blks.length = none := by simp [St.fs, List.getD_eq_getElem?_getD]
theorem opRec_app {inl : Inline P Good} {ops : Array Oper} {o : Oper} {ro : List Nat} {gb : Nat} {s : St} {tr tr' : List (Item P Good)} {eqs : List (Got × Got)} {R : Rec}
    (h : opRec P inl ops o ro gb s.fs s.blks tr = some (R, tr', eqs)) : (s.app o.dst R).fs = s.fs.app s.tmps.length o.dst R ∧ (s.app o.dst R).tmps.length = s.tmps.length := by
  obtain ⟨h1, h2⟩ := opRec_new h
  exact s.app_fs o.dst R h1 (fun b cs d hb => by obtain ⟨cs', hc⟩ := h2 b cs d hb; exact lt_of_live hc)
theorem tmp_out (s : St) : ∀ t, s.tmps.length ≤ t → s.fs.tmp t = .any := fun t ht => by simp [St.fs, List.getD_eq_getElem?_getD, List.getElem?_eq_none ht]

/-- In the order of the text. -/
theorem runOps_sound {c : Ctx} {Q : Exit → Act → World → Prop} {inl : Inline P Good} (hinl : InlOk P Good inl) (hP : c.P = P) (hGd : c.Good = Good) (hG : Steady Good) (h0 : c.Good c.w0) {gb : Nat} (hgb : c.gb ≤ gb) {ops : Array Oper} {ro : List Nat} :
    ∀ (l : List Oper) (s s' : St) (tr tr' : List (Item P Good)) (eqs : List (Got × Got)) (recs : List (Rec × Option Nat)) (a : Act) (w : World),
      runOps P inl ops ro gb l s tr = some (s', tr', eqs, recs) → Agree eqs → Rel c s.tmps.length s.fs a w → (∀ a' w', Rel c s.tmps.length s'.fs a' w' → Q .normal a' w') → wpList P ops Q l a w
  | [], s, s', tr, tr', eqs, recs, a, w, hr, he, h, hQ => by
    simp only [runOps, Option.some.injEq, Prod.mk.injEq] at hr
    obtain ⟨rfl, rfl, rfl, rfl⟩ := hr
    exact hQ a w h
  | o :: rest, s, s', tr, tr', eqs, recs, a, w, hr, he, h, hQ => by
    simp only [runOps] at hr
    split at hr
    · rename_i R tr1 eqs1 h1
      split at hr
      · rename_i s2 tr2 eqs2 recs2 h2
        simp only [Option.some.injEq, Prod.mk.injEq] at hr
        obtain ⟨rfl, rfl, rfl, rfl⟩ := hr
        obtain ⟨he1, he2⟩ := he.append
        obtain ⟨e1, e2⟩ := opRec_app h1
        refine wpList_step fun K hK => ?_
        refine opRec_sound hinl hP hGd hG h0 hgb h h1 he1 (fun b cs d hb => by rw [(opRec_new h1).1 b cs d hb]; exact blk_len_none s) (fun _ _ _ => ⟨fun b => rfl, tmp_out s⟩) fun a' w' h' => hK _ _ ?_
        rw [← e1, ← e2] at h'
        exact runOps_sound hinl hP hGd hG h0 hgb rest _ _ _ _ _ _ a' w' h2 he2 h' (by rw [e2]; exact hQ)
      · cases hr
    · cases hr
theorem runOps_len {inl : Inline P Good} {ops : Array Oper} {ro : List Nat} {gb : Nat} : ∀ (l : List Oper) (s s' : St) (tr tr' : List (Item P Good)) (eqs : List (Got × Got)) (recs : List (Rec × Option Nat)),
      runOps P inl ops ro gb l s tr = some (s', tr', eqs, recs) → s'.tmps.length = s.tmps.length
  | [], s, s', tr, tr', eqs, recs, hr => by
    simp only [runOps, Option.some.injEq, Prod.mk.injEq] at hr
    obtain ⟨rfl, rfl, rfl, rfl⟩ := hr; rfl
  | o :: rest, s, s', tr, tr', eqs, recs, hr => by
    simp only [runOps] at hr
    split at hr
    · rename_i R tr1 eqs1 h1
      split at hr
      · rename_i s2 tr2 eqs2 recs2 h2
        simp only [Option.some.injEq, Prod.mk.injEq] at hr
        obtain ⟨rfl, rfl, rfl, rfl⟩ := hr
        rw [runOps_len rest _ _ _ _ _ _ h2, (opRec_app h1).2]
      · cases hr
    · cases hr
end Lw

namespace Lw
open Go Go.RowKit

variable {P : Program} {Good : World → Prop}

/-! ### The effect of an operation depends on what it looks at alone. -/
theorem map_ev_congr {ρ ρ' : Operand → D} {l : List Operand} (h : ∀ x ∈ l, ρ x = ρ' x) : l.map ρ = l.map ρ' := List.map_congr_left h
theorem parts_congr {ρ ρ' : Operand → D} {l : List (Nat × Operand)} (h : ∀ x ∈ l.map (·.2), ρ x = ρ' x) : (l.map fun p => (p.1, ρ p.2)) = l.map fun p => (p.1, ρ' p.2) :=
  List.map_congr_left fun p hp => by rw [h p.2 (List.mem_map_of_mem hp)]
theorem eff_congr {o : Oper} {ρ ρ' : Operand → D} {blk blk' : Nat → Option (List D)} {nb : Nat} {ro : Bool} {gb : Nat} (hρ : ∀ x ∈ o.op.operands.toList, ρ x = ρ' x)
    (hb : ∀ b, accOf o ρ = some b → blk b = blk' b) (hap : ∀ k b n sz rest, o.op = .call k → k.callee = .builtin .append → k.args.toList.map ρ ≠ .gsl b n sz :: rest) :
    eff P o ρ blk nb ro gb = eff P o ρ' blk' nb ro gb := by
  unfold eff
  cases hop : o.op <;> simp only [hop, Op.operands] at hρ <;> try dsimp only
  case move x => rw [hρ x (by simp)]
  case assign x => rw [hρ x (by simp)]
  case pick k x y => rw [hρ k (by simp), hρ x (by simp), hρ y (by simp)]
  case box t x => rw [hρ x (by simp)]
  case build t parts => rw [parts_congr (by simpa using hρ)]
  case buildSlice t len parts => rw [parts_congr (by simpa using hρ)]
  case load t x =>
    have hx := hρ x (by simp)
    rw [← hx]
    cases hpx : ρ x with
    | ptr b off => have e := hb b (by simp [accOf, hop, hpx]); simp only [e]
    | _ => rfl
  case store t x y =>
    have hx := hρ x (by simp)
    rw [← hx, ← hρ y (by simp)]
    cases hpx : ρ x with
    | ptr b off =>
      have e := hb b (by simp [accOf, hop, hpx])
      cases (ρ y).cells with
      | none => rfl
      | some ds => cases tySize P t with
        | none => rfl
        | some sz => simp only [e]
    | _ => rfl
  case binOp op t x y u => rw [hρ x (by simp), hρ y (by simp)]
  case unOp op t x => rw [hρ x (by simp)]
  case convert t u x => rw [hρ x (by simp)]
  case makeInterface t x => rw [hρ x (by simp)]
  case typeAssert x t u ok => rw [hρ x (by simp)]
  case fieldAddr t x f => rw [hρ x (by simp)]
  case field t x f => rw [hρ x (by simp)]
  case indexAddr t x ix => rw [hρ x (by simp), hρ ix (by simp)]
  case index t x ix => rw [hρ x (by simp), hρ ix (by simp)]
  case extract x i => rw [hρ x (by simp)]
  case makeSlice t l k => rw [hρ l (by simp), hρ k (by simp)]
  case slice t x lo hi mx =>
    cases mx with
    | some m => rfl
    | none =>
      have hx := hρ x (by simp)
      cases lo with
      | none => cases hi with
        | none => simp only [hx]
        | some hi => have h1 := hρ hi (by simp); simp only [hx, h1]
      | some lo =>
        have h0 := hρ lo (by simp)
        cases hi with
        | none => simp only [hx, h0]
        | some hi => have h1 := hρ hi (by simp); simp only [hx, h0, h1]
  case call k =>
    simp only [Call.operands] at hρ
    have ha : k.args.toList.map ρ = k.args.toList.map ρ' := map_ev_congr fun x hx => hρ x (by simp; exact .inr (by simpa using hx))
    have hap' := fun b n sz rest => hap k b n sz rest hop
    rw [ha] at hap' ⊢
    cases hk : k.callee with
    | value f => have := hρ f (by simp [hk]); simp only [this]
    | invoke r m => rfl
    | builtin b =>
      cases b <;> try rfl
      case append =>
        have hap2 := fun b n sz rest => hap' b n sz rest hk
        generalize k.args.toList.map ρ' = l at hap2
        generalize k.argTypes.toList = ts
        match l, ts, hap2 with
        | [], _, _ => rfl
        | [x], _, _ => rfl
        | [x, y], [], _ => cases y <;> rfl
        | [x, y], [t], _ => cases y <;> rfl
        | [x, y], t :: t' :: t'' :: r, _ => cases y <;> rfl
        | [x, y], [t, t'], hap2 =>
          cases y <;> try rfl
          case row m f ys =>
            cases x with
            | gsl b n sz => exact absurd rfl (hap2 b n sz _)
            | row _ full _ => cases full <;> rfl
            | _ => rfl
        | x :: y :: z :: r, [], _ => cases y <;> rfl
        | x :: y :: z :: r, [t], _ => cases y <;> rfl
        | x :: y :: z :: r, [t, t'], _ => cases y <;> rfl
        | x :: y :: z :: r, t :: t' :: t'' :: r', _ => cases y <;> rfl
theorem guard_congr {ops : Array Oper} {o : Oper} {tmp tmp' : Nat → D} (h : ∀ j want t, o.guard = some (j, want) → (ops[j]?).bind (·.dst) = some t → tmp t = tmp' t) :
    guardSays ops o tmp = guardSays ops o tmp' := by
  unfold guardSays
  split
  · rfl
  · rename_i j want hg
    split
    · rename_i t ht
      rw [h j want t hg ht]
    · rfl
theorem eff_congr' {o : Oper} {ρ ρ' : Operand → D} {blk blk' : Nat → Option (List D)} {nb : Nat} {ro : Bool} {gb : Nat} {E : Eff} {nd : Need} (hρ : ∀ x ∈ o.op.operands.toList, ρ x = ρ' x)
    (hb : ∀ b, accOf o ρ = some b → blk b = blk' b) (h : eff P o ρ blk nb ro gb = some (E, nd)) (hE : ∀ b cs d, E ≠ .grow b cs d) : eff P o ρ' blk' nb ro gb = some (E, nd) := by
  rw [← h]
  refine (eff_congr hρ hb fun k b n sz rest ho hk hl => ?_).symm
  unfold eff at h
  simp only [ho, hk, hl] at h
  repeat' split at h
  all_goals first | (cases h; done) | skip
  all_goals (rename_i hx _; first | (simp only [Option.some.injEq, Prod.mk.injEq] at h; exact hE _ _ _ h.1.symm) | (simp at hx; done) | skip)
  all_goals first | (simp only [Option.some.injEq, Prod.mk.injEq] at h; exact hE _ _ _ h.1.symm) | skip
theorem opRec_congr {inl : Inline P Good} {ops : Array Oper} {o : Oper} {ro : List Nat} {gb : Nat} {s s' : FSt} {blks : List (Option (List D))} {tr tr' : List (Item P Good)} {R : Rec} {eqs : List (Got × Got)}
    (hg : ∀ j want t, o.guard = some (j, want) → (ops[j]?).bind (·.dst) = some t → s.tmp t = s'.tmp t)
    (hρ : ∀ x ∈ o.op.operands.toList, s.ev x = s'.ev x) (hb : ∀ b, accOf o s.ev = some b → s.blk b = s'.blk b)
    (h : opRec P inl ops o ro gb s blks tr = some (R, tr', eqs)) (hR : R.plain = true) : opRec P inl ops o ro gb s' blks tr = some (R, tr', eqs) := by
  unfold opRec at h ⊢
  rw [← guard_congr hg]
  split at h
  · rename_i hgd
    split at h
    · rename_i E nd hE
      split at h
      · rename_i tr1 eqs1 hn
        split at h
        · rename_i R2 tr2 eqs2 hm
          simp only [Option.some.injEq, Prod.mk.injEq] at h
          obtain ⟨rfl, rfl, rfl⟩ := h
          have hm' : meetEff inl s'.blk blks o.dst E tr1 = some (R2, tr2, eqs2) := by
            cases E with
            | call f args =>
              simp only [meetEff] at hm ⊢
              split at hm
              · split at hm
                · split at hm
                  · simp only [Option.some.injEq, Prod.mk.injEq] at hm; obtain ⟨rfl, -, -⟩ := hm; cases hR
                  · cases hm
                · rename_i hown; rw [if_neg hown]; exact hm
              · exact hm
              · split at hm
                · simp only [Option.some.injEq, Prod.mk.injEq] at hm; obtain ⟨rfl, -, -⟩ := hm; cases hR
                · cases hm
              · cases hm
            | val d => exact hm
            | new b cs d => exact hm
            | store b off ds => exact hm
            | grow b cs d => exact hm
          have hng : ∀ b cs d, E ≠ .grow b cs d := by
            rintro b cs d rfl
            simp only [meetEff, Option.some.injEq, Prod.mk.injEq] at hm
            obtain ⟨rfl, -, -⟩ := hm; cases hR
          simp only [eff_congr' hρ hb hE hng, hn, hm']
        · cases h
      · cases h
    · cases h
  · exact h
  · cases h

/-! ### Ancestors. -/
def depsOf (o : Oper) : List Nat := (o.after.toList.filter fun e => Region.binds .any e).map (·.on)
def ancOf (acc : List Nat) (ds : List Nat) : Nat := ds.foldl (fun s d => s ||| (2 ^ d ||| acc.getD d 0)) 0
def ancs : List Oper → List Nat → List Nat
  | [], acc => acc
  | o :: rest, acc => ancs rest (acc ++ [ancOf acc (depsOf o)])

theorem ancOf_bit (acc : List Nat) : ∀ (ds : List Nat) (z k : Nat), (ds.foldl (fun s d => s ||| (2 ^ d ||| acc.getD d 0)) z).testBit k = true → z.testBit k = true ∨ ∃ d ∈ ds, k = d ∨ (acc.getD d 0).testBit k = true
  | [], z, k, h => .inl h
  | d :: ds, z, k, h => by
    rcases ancOf_bit acc ds _ k h with h1 | ⟨e, he, h2⟩
    · rw [Nat.testBit_or, Nat.testBit_or, Bool.or_eq_true, Bool.or_eq_true] at h1
      rcases h1 with h1 | h1 | h1
      · exact .inl h1
      · rw [Nat.testBit_two_pow] at h1
        exact .inr ⟨d, by simp, .inl (by simpa using h1 : d = k).symm⟩
      · exact .inr ⟨d, by simp, .inr h1⟩
    · exact .inr ⟨e, by simp [he], h2⟩
/-- What every list of ancestors says. -/
def AncOk (l : List Oper) (acc : List Nat) : Prop :=
  acc.length ≤ l.length ∧ ∀ i (h : i < acc.length) (h' : i < l.length) k, (acc.getD i 0).testBit k = true → ∃ d ∈ depsOf l[i], k = d ∨ (d < i ∧ (acc.getD d 0).testBit k = true)
theorem ancs_ok (l : List Oper) : ∀ (rest : List Oper) (pre : List Oper) (acc : List Nat), l = pre ++ rest → acc.length = pre.length → AncOk l acc → (∀ i (h : i < l.length), ∀ d ∈ depsOf l[i], d < i) →
    AncOk l (ancs rest acc) ∧ (ancs rest acc).length = l.length
  | [], pre, acc, hl, hlen, hok, _ => ⟨hok, by rw [hl]; simpa [ancs] using hlen⟩
  | o :: rest, pre, acc, hl, hlen, hok, ht => by
    have hi : acc.length < l.length := by rw [hl, hlen]; simp
    have ho : l[acc.length] = o := by simp [hl, hlen]
    refine ancs_ok l rest (pre ++ [o]) _ (by rw [hl]; simp) (by simp [hlen]) ⟨by simp; omega, fun i h h' k hk => ?_⟩ ht
    have get : ∀ d, d < acc.length → (acc ++ [ancOf acc (depsOf o)]).getD d 0 = acc.getD d 0 := fun d hd => by simp [List.getD_eq_getElem?_getD, List.getElem?_append_left hd]
    by_cases hlt : i < acc.length
    · rw [get i hlt] at hk
      obtain ⟨d, hd, h1⟩ := hok.2 i hlt h' k hk
      refine ⟨d, hd, ?_⟩
      rcases h1 with h1 | ⟨h1, h2⟩
      · exact .inl h1
      · exact .inr ⟨h1, by rw [get d (by omega)]; exact h2⟩
    · have : i = acc.length := by simp at h; omega
      subst this
      have hg : (acc ++ [ancOf acc (depsOf o)]).getD acc.length 0 = ancOf acc (depsOf o) := by simp [List.getD_eq_getElem?_getD]
      rw [hg] at hk
      rcases ancOf_bit acc _ 0 k hk with h1 | ⟨d, hd, h1⟩
      · simp at h1
      · rw [ho]
        refine ⟨d, hd, ?_⟩
        rcases h1 with h1 | h1
        · exact .inl h1
        · have hdl := ht acc.length hi d (by rw [ho]; exact hd)
          exact .inr ⟨hdl, by rw [get d hdl]; exact h1⟩

/-- Closed under the edges: then closed under ancestors. -/
theorem anc_closed {l : List Oper} {acc : List Nat} (hok : AncOk l acc) (hlen : acc.length = l.length) {L : Nat → Bool} (hcl : ∀ j (h : j < l.length), L j = true → ∀ d ∈ depsOf l[j], L d = true)  : ∀ i (h : i < l.length), (∀ d ∈ depsOf l[i], L d = true) → ∀ k, (acc.getD i 0).testBit k = true → L k = true := by
  intro i
  induction i using Nat.strongRecOn with
  | _ i ih =>
    intro h hr k hk
    obtain ⟨d, hd, h1⟩ := hok.2 i (by omega) h k hk
    rcases h1 with h1 | ⟨h1, h2⟩
    · rw [h1]; exact hr d hd
    · exact ih d h1 (by omega) (hcl d (by omega) (hr d hd)) k h2

/-! ### The frame when some have been carried out. -/
def Rec.isNew : Rec → Nat → Bool
  | .new b' _ _, b => b' == b
  | .val _, _ => false
  | .store _ _ _, _ => false
  | .grow _ _ _, _ => false
  | .own _, _ => false
  | .inl _ _, _ => false
def Rec.isStore : Rec → Nat → Bool
  | .store b' _ _, b => b' == b
  | .val _, _ => false
  | .new _ _ _, _ => false
  | .grow _ _ _, _ => false
  | .own _, _ => false
  | .inl _ _, _ => false
def Rec.cs : Rec → List D
  | .new _ cs _ => cs
  | _ => []
def Rec.stored : Rec → List D → List D
  | .store _ off ds, cs => splice cs off ds
  | _, cs => cs
def sL (s0 : FSt) (n m : Nat) (dst : Nat → Option Tmp) (R : Nat → Rec) (L : Nat → Bool) : FSt where
  tmp := fun t => match (List.range m).find? (fun j => L j && (dst j == some t && Nat.blt t n)) with
    | some j => (R j).put
    | none => s0.tmp t
  blk := fun b =>
    let base := match (List.range m).find? (fun j => L j && (R j).isNew b) with
      | some j => some (R j).cs
      | none => s0.blk b
    (List.range m).foldl (fun c j => if L j && (R j).isStore b then c.map (R j).stored else c) base

theorem find_uniq {m : Nat} {p : Nat → Bool} {i : Nat} (hi : i < m) (hp : p i = true) (hu : ∀ j, j < m → p j = true → j = i) : (List.range m).find? p = some i := by
  cases h : (List.range m).find? p with
  | none =>
    have := List.find?_eq_none.1 h i (by simpa using hi)
    exact absurd hp this
  | some j =>
    have h1 := List.mem_of_find?_eq_some h
    have h2 := List.find?_some h
    rw [hu j (by simpa using h1) h2]
theorem find_none {m : Nat} {p : Nat → Bool} (h : ∀ j, j < m → p j = false) : (List.range m).find? p = none := by
  rw [List.find?_eq_none]
  intro x hx
  rw [h x (by simpa using hx)]; simp
theorem find_congr {m : Nat} {p q : Nat → Bool} (h : ∀ j, j < m → p j = q j) : (List.range m).find? p = (List.range m).find? q := by
  have : ∀ l : List Nat, (∀ j ∈ l, p j = q j) → l.find? p = l.find? q := by
    intro l hl
    induction l with
    | nil => rfl
    | cons x l ih => simp only [List.find?_cons, hl x (by simp), ih (fun j hj => hl j (by simp [hj]))]
  exact this _ fun j hj => h j (by simpa using hj)

theorem fold_congr {α : Type} {m : Nat} {p q : Nat → Bool} {f : Nat → α → α} {x : α} (h : ∀ j, j < m → p j = q j) :
    (List.range m).foldl (fun c j => if p j then f j c else c) x = (List.range m).foldl (fun c j => if q j then f j c else c) x := by
  induction m with
  | zero => rfl
  | succ m ih =>
    rw [List.range_succ, List.foldl_append, List.foldl_append, ih fun j hj => h j (by omega)]
    simp only [List.foldl_cons, List.foldl_nil, h m (by omega)]
theorem fold_none {α : Type} {m : Nat} {p : Nat → Bool} {f : Nat → α → α} {x : α} (h : ∀ j, j < m → p j = false) : (List.range m).foldl (fun c j => if p j then f j c else c) x = x := by
  induction m with
  | zero => rfl
  | succ m ih =>
    rw [List.range_succ, List.foldl_append, ih fun j hj => h j (by omega)]
    simp only [List.foldl_cons, List.foldl_nil, h m (by omega)]
    rfl
theorem fold_last {α : Type} {m i : Nat} {p q : Nat → Bool} {f : Nat → α → α} {x : α} (hi : i < m) (hp : p i = false) (hlow : ∀ j, j < m → p j = true → j < i) (hq : ∀ j, q j = (p j || j == i)) :
    (List.range m).foldl (fun c j => if q j then f j c else c) x = f i ((List.range m).foldl (fun c j => if p j then f j c else c) x) := by
  induction m with
  | zero => omega
  | succ m ih =>
    rw [List.range_succ, List.foldl_append, List.foldl_append]
    simp only [List.foldl_cons, List.foldl_nil]
    rcases Nat.lt_or_ge i m with h | h
    · rw [ih h fun j hj hpj => hlow j (by omega) hpj]
      have h1 : p m = false := by
        cases hh : p m with
        | false => rfl
        | true => have := hlow m (by omega) hh; omega
      have h2 : q m = false := by
        rw [hq, h1]
        have : (m == i) = false := by rw [beq_eq_false_iff_ne]; omega
        rw [this]; rfl
      rw [h1, h2]; rfl
    · have : i = m := by omega
      subst this
      have h2 : q i = true := by rw [hq]; simp
      rw [h2, hp]
      have : (List.range i).foldl (fun c j => if q j then f j c else c) x = (List.range i).foldl (fun c j => if p j then f j c else c) x := fold_congr fun j hj => by
        rw [hq]
        have : (j == i) = false := by rw [beq_eq_false_iff_ne]; omega
        rw [this, Bool.or_false]
      rw [this]; rfl
theorem fold_nothing {m : Nat} {p : Nat → Bool} {f : Nat → List D → List D} : (List.range m).foldl (fun c j => if p j then Option.map (f j) c else c) none = none := by
  induction m with
  | zero => rfl
  | succ m ih =>
    rw [List.range_succ, List.foldl_append, ih]
    simp only [List.foldl_cons, List.foldl_nil, Option.map_none]
    split <;> rfl

/-- The conditions. -/
structure DrawOk (s0 : FSt) (m : Nat) (dst : Nat → Option Tmp) (reads : Nat → Tmp → Bool) (R : Nat → Rec) (acc : Nat → Option Nat) (anc : Nat → Nat → Bool) : Prop where
  cDst : ∀ i j t, i < m → j < m → dst i = some t → dst j = some t → i = j
  cStore : ∀ i j b, i < m → j < m → (R i).isStore b = true → (R j).isStore b = true → i = j ∨ (anc i j = true ∧ j < i) ∨ (anc j i = true ∧ i < j)
  cNew : ∀ i j b, i < m → j < m → (R i).isNew b = true → (R j).isNew b = true → i = j
  cFresh : ∀ i b, i < m → (R i).isNew b = true → s0.blk b = none
  cReads : ∀ i j t, i < m → j < m → reads i t = true → dst j = some t → j = i ∨ anc i j = true ∨ anc j i = true
  cStores : ∀ i j b, i < m → j < m → acc i = some b → (R j).isStore b = true → j = i ∨ anc i j = true ∨ anc j i = true
  cNews : ∀ i j b, i < m → j < m → acc i = some b → (R j).isNew b = true → anc i j = true
  cOwn : ∀ i b, i < m → (R i).isStore b = true → acc i = some b
  cPlain : ∀ i, i < m → (R i).plain = true

section step
variable {s0 : FSt} {n m : Nat} {dst : Nat → Option Tmp} {reads : Nat → Tmp → Bool} {R : Nat → Rec} {acc : Nat → Option Nat} {anc : Nat → Nat → Bool}

/-- One more. -/
theorem sL_app (ok : DrawOk s0 m dst reads R acc anc) {L : Nat → Bool} {i : Nat} (hi : i < m) (hL : L i = false) (hcl : ∀ j, j < m → L j = true → ∀ k, anc j k = true → L k = true) :
    (sL s0 n m dst R L).app n (dst i) (R i) = sL s0 n m dst R (fun j => L j || j == i) := by
  have htmp : ∀ t, (sL s0 n m dst R (fun j => L j || j == i)).tmp t = if dst i = some t ∧ t < n then (R i).put else (sL s0 n m dst R L).tmp t := by
    intro t
    simp only [sL]
    by_cases hc : dst i = some t ∧ t < n
    · have hf : (List.range m).find? (fun j => (L j || j == i) && (dst j == some t && Nat.blt t n)) = some i := find_uniq hi (by simp [hc.1, hc.2]) (fun j hj hp => by
        simp only [Bool.and_eq_true, beq_iff_eq] at hp
        exact (ok.cDst i j t hi hj hc.1 hp.2.1).symm)
      rw [if_pos hc, hf]
    · rw [if_neg hc]
      congr 1
      refine find_congr fun j hj => ?_
      by_cases hji : j = i
      · subst hji
        have : (dst j == some t && Nat.blt t n) = false := by
          rw [Bool.and_eq_false_iff]
          by_cases h1 : dst j = some t
          · right
            have h2 : ¬ t < n := fun h2 => hc ⟨h1, h2⟩
            cases hb : Nat.blt t n with
            | false => rfl
            | true => rw [Nat.blt_eq] at hb; exact absurd hb h2
          · left; simpa using h1
        rw [this]; simp
      · have h9 : (j == i) = false := by simpa using hji
        simp only [h9, Bool.or_false]
  have hblk : ∀ b, (R i).isNew b = false → (R i).isStore b = false → (sL s0 n m dst R (fun j => L j || j == i)).blk b = (sL s0 n m dst R L).blk b := by
    intro b h1 h2
    simp only [sL]
    have e1 : (List.range m).find? (fun j => (L j || j == i) && (R j).isNew b) = (List.range m).find? (fun j => L j && (R j).isNew b) := find_congr fun j hj => by
      by_cases hji : j = i
      · subst hji; rw [h1]; simp
      · have h9 : (j == i) = false := by simpa using hji
        simp only [h9, Bool.or_false]
    rw [e1]
    exact fold_congr fun j hj => by
      by_cases hji : j = i
      · subst hji; rw [h2]; simp
      · have h9 : (j == i) = false := by simpa using hji
        simp only [h9, Bool.or_false]
  cases hR : R i with
  | grow b cs d => have := ok.cPlain i hi; rw [hR] at this; cases this
  | own d => have := ok.cPlain i hi; rw [hR] at this; cases this
  | inl bl d => have := ok.cPlain i hi; rw [hR] at this; cases this
  | val d =>
    have h1 : ∀ b, (R i).isNew b = false := fun b => by rw [hR]; rfl
    have h2 : ∀ b, (R i).isStore b = false := fun b => by rw [hR]; rfl
    have : (sL s0 n m dst R (fun j => L j || j == i)) = ⟨(sL s0 n m dst R (fun j => L j || j == i)).tmp, (sL s0 n m dst R (fun j => L j || j == i)).blk⟩ := rfl
    rw [this]
    simp only [FSt.app, FSt.put]
    congr 1
    · funext t; rw [htmp t, hR]; rfl
    · funext b; rw [hblk b (h1 b) (h2 b)]
  | new b0 cs d =>
    have hnost : ∀ j, j < m → (L j || j == i) = true → (R j).isStore b0 = false := by
      intro j hj hLj
      cases hs : (R j).isStore b0 with
      | false => rfl
      | true =>
        have ha := ok.cOwn j b0 hj hs
        have hanc := ok.cNews j i b0 hj hi ha (by rw [hR]; simp [Rec.isNew])
        by_cases hji : j = i
        · subst hji; rw [hR] at hs; simp [Rec.isStore] at hs
        · have hLj' : L j = true := by simpa [hji] using hLj
          have := hcl j hj hLj' i hanc
          rw [hL] at this; cases this
    have : (sL s0 n m dst R (fun j => L j || j == i)) = ⟨(sL s0 n m dst R (fun j => L j || j == i)).tmp, (sL s0 n m dst R (fun j => L j || j == i)).blk⟩ := rfl
    rw [this]
    simp only [FSt.app, FSt.put, FSt.setBlk]
    congr 1
    · funext t; rw [htmp t, hR]; rfl
    · funext b
      by_cases hb : b = b0
      · subst hb
        rw [if_pos rfl]
        have hf : (List.range m).find? (fun j => (L j || j == i) && (R j).isNew b) = some i := find_uniq hi (by simp [hR, Rec.isNew]) (fun j hj hp => by
          simp only [Bool.and_eq_true] at hp
          exact (ok.cNew i j b hi hj (by rw [hR]; simp [Rec.isNew]) hp.2).symm)
        simp only [sL, hf, hR]
        rw [fold_none (fun j hj => by
            cases hq : (L j || j == i) with
            | false => rfl
            | true => simp [hnost j hj hq])]
        rfl
      · rw [if_neg hb, hblk b (by rw [hR]; simp [Rec.isNew, Ne.symm hb]) (by rw [hR]; rfl)]
  | store b0 off ds =>
    have : (sL s0 n m dst R (fun j => L j || j == i)) = ⟨(sL s0 n m dst R (fun j => L j || j == i)).tmp, (sL s0 n m dst R (fun j => L j || j == i)).blk⟩ := rfl
    rw [this]
    simp only [FSt.app, FSt.put, FSt.setBlk]
    congr 1
    · funext t; rw [htmp t, hR]; rfl
    · funext b
      by_cases hb : b = b0
      · subst hb
        rw [if_pos rfl]
        have hlow : ∀ j, j < m → (L j && (R j).isStore b) = true → j < i := by
          intro j hj hp
          rw [Bool.and_eq_true] at hp
          rcases ok.cStore i j b hi hj (by rw [hR]; simp [Rec.isStore]) hp.2 with e | ⟨-, e⟩ | ⟨e, -⟩
          · subst e; rw [hL] at hp; cases hp.1
          · exact e
          · have := hcl j hj hp.1 i e
            rw [hL] at this; cases this
        have e1 : (List.range m).find? (fun j => (L j || j == i) && (R j).isNew b) = (List.range m).find? (fun j => L j && (R j).isNew b) := find_congr fun j hj => by
          by_cases hji : j = i
          · subst hji; rw [hR]; simp [Rec.isNew]
          · have h9 : (j == i) = false := by simpa using hji
            simp only [h9, Bool.or_false]
        simp only [sL, e1]
        rw [fold_last (p := fun j => L j && (R j).isStore b) (q := fun j => (L j || j == i) && (R j).isStore b) (f := fun j c => Option.map (R j).stored c) hi (by simp [hL]) hlow (fun j => by
          by_cases hji : j = i
          · subst hji; rw [hR]; simp [Rec.isStore]
          · have h9 : (j == i) = false := by simpa using hji
            simp only [h9, Bool.or_false])]
        rw [hR]; rfl
      · rw [if_neg hb, hblk b (by rw [hR]; rfl) (by rw [hR]; simp [Rec.isStore, Ne.symm hb])]

/-- What an operation looks at is the same, whoever else has been carried out, if all that it waits for has been. -/
theorem sL_tmp (ok : DrawOk s0 m dst reads R acc anc) {L L' : Nat → Bool} {i : Nat} (hi : i < m) (hL : L i = false) (hL' : L' i = false)
    (hr : ∀ k, anc i k = true → L k = true) (hr' : ∀ k, anc i k = true → L' k = true)
    (hcl : ∀ j, j < m → L j = true → ∀ k, anc j k = true → L k = true) (hcl' : ∀ j, j < m → L' j = true → ∀ k, anc j k = true → L' k = true) {t : Tmp} (ht : reads i t = true) :
    (sL s0 n m dst R L).tmp t = (sL s0 n m dst R L').tmp t := by
  simp only [sL]
  congr 1
  refine find_congr fun j hj => ?_
  by_cases hd : dst j = some t
  · rcases ok.cReads i j t hi hj ht hd with rfl | h | h
    · rw [hL, hL']
    · rw [hr j h, hr' j h]
    · have h1 : L j = false := by
        cases hq : L j with
        | false => rfl
        | true => have := hcl j hj hq i h; rw [hL] at this; cases this
      have h2 : L' j = false := by
        cases hq : L' j with
        | false => rfl
        | true => have := hcl' j hj hq i h; rw [hL'] at this; cases this
      rw [h1, h2]
  · have : (dst j == some t) = false := by simpa using hd
    rw [this]; simp
theorem sL_blk (ok : DrawOk s0 m dst reads R acc anc) {L L' : Nat → Bool} {i : Nat} (hi : i < m) (hL : L i = false) (hL' : L' i = false)
    (hr : ∀ k, anc i k = true → L k = true) (hr' : ∀ k, anc i k = true → L' k = true)
    (hcl : ∀ j, j < m → L j = true → ∀ k, anc j k = true → L k = true) (hcl' : ∀ j, j < m → L' j = true → ∀ k, anc j k = true → L' k = true) {b : Nat} (hb : acc i = some b) :
    (sL s0 n m dst R L).blk b = (sL s0 n m dst R L').blk b := by
  have e1 : (List.range m).find? (fun j => L j && (R j).isNew b) = (List.range m).find? (fun j => L' j && (R j).isNew b) := find_congr fun j hj => by
    cases hq : (R j).isNew b with
    | false => simp
    | true => have := ok.cNews i j b hi hj hb hq; rw [hr j this, hr' j this]
  simp only [sL]
  rw [e1]
  exact fold_congr fun j hj => by
    cases hq : (R j).isStore b with
    | false => simp
    | true =>
      rcases ok.cStores i j b hi hj hb hq with rfl | h | h
      · rw [hL, hL']
      · rw [hr j h, hr' j h]
      · have h1 : L j = false := by
          cases hq : L j with
          | false => rfl
          | true => have := hcl j hj hq i h; rw [hL] at this; cases this
        have h2 : L' j = false := by
          cases hq : L' j with
          | false => rfl
          | true => have := hcl' j hj hq i h; rw [hL'] at this; cases this
        rw [h1, h2]
theorem sL_fresh (ok : DrawOk s0 m dst reads R acc anc) {L : Nat → Bool} {i b : Nat} (hi : i < m) (hL : L i = false) (hb : (R i).isNew b = true) : (sL s0 n m dst R L).blk b = none := by
  have e1 : (List.range m).find? (fun j => L j && (R j).isNew b) = none := find_none fun j hj => by
    cases hq : (R j).isNew b with
    | false => simp
    | true => have := ok.cNew j i b hj hi hq hb; subst this; rw [hL]; rfl
  simp only [sL]
  rw [e1, ok.cFresh i b hi hb]
  exact fold_nothing
end step
end Lw

namespace Lw
open Go Go.RowKit

variable {P : Program} {Good : World → Prop}

def readsOf (ops : Array Oper) (o : Oper) : List Tmp :=
  (o.op.operands.toList.filterMap fun | .tmp t => some t | _ => none) ++
    match o.guard with
    | some (j, _) => ((ops[j]?).bind (·.dst)).toList
    | none => []
structure Info where
  ix : Nat
  dst : Option Tmp
  reads : List Tmp
  rc : Rec
  acc : Option Nat
  anc : Nat
def infos (ops : Array Oper) : Nat → List Oper → List (Rec × Option Nat) → List Nat → List Info
  | i, o :: l, r :: rs, k :: ks => ⟨i, o.dst, readsOf ops o, r.1, r.2, k⟩ :: infos ops (i + 1) l rs ks
  | _, _, _, _ => []
def Info.lone (s0len : Nat) (x : Info) : Bool :=
  match x.rc with
  | .new b _ _ => Nat.ble s0len b
  | .store b _ _ => x.acc == some b
  | .val _ => true
  | .grow _ _ _ => false
  | .own _ => false
  | .inl _ _ => false
def Info.pair (x y : Info) : Bool :=
  (x.ix == y.ix ||
    ((match x.dst with | some t => !(y.dst == some t) | none => true) &&
     (match x.rc with | .store b _ _ => !(y.rc.isStore b) || ((x.anc.testBit y.ix && Nat.blt y.ix x.ix) || (y.anc.testBit x.ix && Nat.blt x.ix y.ix)) | .new b _ _ => !(y.rc.isNew b) | _ => true))) &&
  ((match y.dst with | some t => !(x.reads.contains t) | none => true) || (y.ix == x.ix || (x.anc.testBit y.ix || y.anc.testBit x.ix))) &&
  (match x.acc with
    | some b => (!(y.rc.isStore b) || (y.ix == x.ix || (x.anc.testBit y.ix || y.anc.testBit x.ix))) && (!(y.rc.isNew b) || x.anc.testBit y.ix)
    | none => true)
def topo : Nat → List Oper → Bool
  | _, [] => true
  | i, o :: l => (depsOf o).all (fun d => Nat.blt d i) && topo (i + 1) l
def drawCheck (ops : Array Oper) (s0len : Nat) (l : List Oper) (recs : List (Rec × Option Nat)) : Bool :=
  let xs := infos ops 0 l recs (ancs l [])
  topo 0 l && (xs.all (Info.lone s0len) && xs.all fun x => xs.all fun y => x.pair y)

theorem infos_mem {ops : Array Oper} : ∀ (i : Nat) (l : List Oper) (rs : List (Rec × Option Nat)) (ks : List Nat), rs.length = l.length → ks.length = l.length → ∀ j (h : j < l.length),
    ⟨i + j, l[j].dst, readsOf ops l[j], (rs.getD j (.val .any, none)).1, (rs.getD j (.val .any, none)).2, ks.getD j 0⟩ ∈ infos ops i l rs ks
  | i, [], rs, ks, _, _, j, h => absurd h (by simp)
  | i, o :: l, [], ks, h1, _, j, h => by simp at h1
  | i, o :: l, r :: rs, [], _, h2, j, h => by simp at h2
  | i, o :: l, r :: rs, k :: ks, h1, h2, j, h => by
    cases j with
    | zero => simp [infos]
    | succ j =>
      have := infos_mem (ops := ops) (i + 1) l rs ks (by simpa using h1) (by simpa using h2) j (by simpa using h)
      simp only [infos, List.mem_cons]
      right
      simpa [Nat.add_assoc, Nat.add_comm 1 j] using this
theorem topo_ok : ∀ (i : Nat) (l : List Oper), topo i l = true → ∀ j (h : j < l.length), ∀ d ∈ depsOf l[j], d < i + j
  | i, [], _, j, h => absurd h (by simp)
  | i, o :: l, ht, j, h => by
    simp only [topo, Bool.and_eq_true, List.all_eq_true, Nat.blt_eq] at ht
    cases j with
    | zero => intro d hd; exact ht.1 d hd
    | succ j => intro d hd; have := topo_ok (i + 1) l ht.2 j (by simpa using h) d hd; omega

theorem count_lt {l : List Nat} {p q : Nat → Bool} {i : Nat} (hi : i ∈ l) (hpi : p i = true) (hqi : q i = false) (h : ∀ j ∈ l, q j = true → p j = true) : l.countP q < l.countP p := by
  induction l with
  | nil => cases hi
  | cons x l ih =>
    have hle : l.countP q ≤ l.countP p := List.countP_mono_left fun j hj hq => h j (List.mem_cons_of_mem _ hj) hq
    by_cases hx : x = i
    · subst hx
      rw [List.countP_cons_of_neg (by rw [hqi]; simp), List.countP_cons_of_pos hpi]
      omega
    · have hil : i ∈ l := by
        rcases List.mem_cons.1 hi with h1 | h1
        · exact absurd h1.symm hx
        · exact h1
      have := ih hil fun j hj hq => h j (List.mem_cons_of_mem _ hj) hq
      rw [List.countP_cons, List.countP_cons]
      by_cases hqx : q x = true
      · rw [if_pos hqx, if_pos (h x (by simp) hqx)]; omega
      · rw [if_neg hqx]; omega

/-- The frame behind the first i operations. -/
def seqFS (n : Nat) (s : FSt) (dst : Nat → Option Tmp) (R : Nat → Rec) : Nat → FSt
  | 0 => s
  | i + 1 => (seqFS n s dst R i).app n (dst i) (R i)
theorem seqFS_shift (n : Nat) (s : FSt) (dst : Nat → Option Tmp) (R : Nat → Rec) (i : Nat) : seqFS n s dst R (i + 1) = seqFS n (s.app n (dst 0) (R 0)) (fun j => dst (j + 1)) (fun j => R (j + 1)) i := by
  induction i with
  | zero => rfl
  | succ i ih => rw [seqFS, ih]; rfl

/-- What a run in the order of the text tells of each operation. -/
theorem runOps_each {inl : Inline P Good} {ops : Array Oper} {ro : List Nat} {gb : Nat} : ∀ (l : List Oper) (s s' : St) (tr tr' : List (Item P Good)) (eqs : List (Got × Got)) (recs : List (Rec × Option Nat)),
      runOps P inl ops ro gb l s tr = some (s', tr', eqs, recs) → Agree eqs →
      recs.length = l.length ∧ s'.fs = seqFS s.tmps.length s.fs (fun j => (l[j]?).bind (·.dst)) (fun j => (recs.getD j (.val .any, none)).1) l.length ∧
      ∀ i (h : i < l.length), ∃ (si : St) (tri tri' : List (Item P Good)) (eqi : List (Got × Got)),
        opRec P inl ops l[i] ro gb si.fs si.blks tri = some ((recs.getD i (.val .any, none)).1, tri', eqi) ∧ Agree eqi ∧ (recs.getD i (.val .any, none)).2 = accOf l[i] si.fs.ev ∧
        si.fs = seqFS s.tmps.length s.fs (fun j => (l[j]?).bind (·.dst)) (fun j => (recs.getD j (.val .any, none)).1) i
  | [], s, s', tr, tr', eqs, recs, hr, he => by
    simp only [runOps, Option.some.injEq, Prod.mk.injEq] at hr
    obtain ⟨rfl, rfl, rfl, rfl⟩ := hr
    exact ⟨rfl, rfl, fun i h => absurd h (by simp)⟩
  | o :: rest, s, s', tr, tr', eqs, recs, hr, he => by
    simp only [runOps] at hr
    split at hr
    · rename_i R tr1 eqs1 h1
      split at hr
      · rename_i s2 tr2 eqs2 recs2 h2
        simp only [Option.some.injEq, Prod.mk.injEq] at hr
        obtain ⟨rfl, rfl, rfl, rfl⟩ := hr
        obtain ⟨he1, he2⟩ := he.append
        obtain ⟨e1, e2⟩ := opRec_app h1
        obtain ⟨g1, g3, g4⟩ := runOps_each rest _ _ _ _ _ _ h2 he2
        rw [e2, e1] at g3 g4
        refine ⟨by simp [g1], ?_, fun i hi => ?_⟩
        · rw [g3]
          show _ = seqFS _ _ _ _ (rest.length + 1)
          rw [seqFS_shift]; rfl
        · cases i with
          | zero => exact ⟨s, tr, tr1, eqs1, h1, he1, rfl, rfl⟩
          | succ i =>
            obtain ⟨si, tri, tri', eqi, q1, q2, q3, q4⟩ := g4 i (by simpa using hi)
            refine ⟨si, tri, tri', eqi, q1, q2, q3, ?_⟩
            rw [q4, seqFS_shift]; rfl
      · cases hr
    · cases hr

theorem draw_sound {c : Ctx} {Q : Exit → Act → World → Prop} {inl : Inline P Good} (hinl : InlOk P Good inl) {gb : Nat} (hgb : c.gb ≤ gb) (hP : c.P = P) (hGd : c.Good = Good) (hG : Steady Good) (h0 : c.Good c.w0) (hm : P.follows .mixedOrders = true) {id : Nat} {ops : Array Oper} {ro : List Nat}
    {s s' : St} {tr tr' : List (Item P Good)} {eqs : List (Got × Got)} {recs : List (Rec × Option Nat)} {a : Act} {w : World}
    (hr : runOps P inl ops ro gb ops.toList s tr = some (s', tr', eqs, recs)) (he : Agree eqs) (hck : drawCheck ops s.blks.length ops.toList recs = true)
    (h : Rel c s.tmps.length s.fs a w) (hQ : ∀ a' w', Rel c s.tmps.length s'.fs a' w' → Q .normal a' w') : (Code.region id ops true).wp P Q a w := by
  obtain ⟨hlen, hfin, heach⟩ := runOps_each _ _ _ _ _ _ _ hr he
  generalize hl : ops.toList = l at *
  have hget : ∀ i : Nat, ops[i]? = l[i]? := fun i => by rw [← hl]; simp
  have hsz : ops.size = l.length := by rw [← hl]; simp
  simp only [drawCheck, Bool.and_eq_true, List.all_eq_true] at hck
  obtain ⟨ht, hlone, hpair⟩ := hck
  have htop : ∀ i (h : i < l.length), ∀ d ∈ depsOf l[i], d < i := fun i h d hd => by have := topo_ok 0 l ht i h d hd; omega
  obtain ⟨hok, hal⟩ := ancs_ok l l [] [] rfl rfl ⟨by simp, fun i h => absurd h (by simp)⟩ htop
  generalize hA : ancs l [] = A at *
  have hmem := infos_mem (ops := ops) 0 l recs A hlen hal
  simp only [Nat.zero_add] at hmem
  generalize hdst : (fun j : Nat => (l[j]?).bind (fun x : Oper => x.dst)) = dst at *
  generalize hRR : (fun j : Nat => (recs.getD j (.val .any, none)).1) = R at *
  generalize hAC : (fun j : Nat => (recs.getD j ((.val .any, none) : Rec × Option Nat)).2) = acc
  have hdst' : ∀ i (h : i < l.length), l[i].dst = dst i := fun i h => by rw [← hdst]; simp [h]
  have hR' : ∀ i, (recs.getD i (.val .any, none)).1 = R i := fun i => by rw [← hRR]
  have hAC' : ∀ i, (recs.getD i (.val .any, none)).2 = acc i := fun i => by rw [← hAC]
  have ok : DrawOk s.fs l.length dst (fun i t => ((l[i]?).map fun o => (readsOf ops o).contains t) == some true) R acc (fun i j => (A.getD i 0).testBit j) := by
    have P2 : ∀ i j (hi : i < l.length) (hj : j < l.length), Info.pair ⟨i, dst i, readsOf ops l[i], R i, acc i, A.getD i 0⟩ ⟨j, dst j, readsOf ops l[j], R j, acc j, A.getD j 0⟩ = true := by
      intro i j hi hj
      have := hpair _ (hmem i hi) _ (hmem j hj)
      simpa only [hdst', hR', hAC'] using this
    have P1 : ∀ i (hi : i < l.length), Info.lone s.blks.length ⟨i, dst i, readsOf ops l[i], R i, acc i, A.getD i 0⟩ = true := by
      intro i hi
      have := hlone _ (hmem i hi)
      simpa only [hdst', hR', hAC'] using this
    refine ⟨fun i j t hi hj h1 h2 => ?_, fun i j b hi hj h1 h2 => ?_, fun i j b hi hj h1 h2 => ?_, fun i b hi h1 => ?_, fun i j t hi hj h1 h2 => ?_, fun i j b hi hj h1 h2 => ?_, fun i j b hi hj h1 h2 => ?_, fun i b hi h1 => ?_, fun i hi => ?_⟩
    · have := P2 i j hi hj
      simp only [Info.pair, Bool.and_eq_true, h1, h2] at this
      simpa using this.1.1
    · have := P2 i j hi hj
      cases hq : R i <;> simp only [hq, Rec.isStore, Bool.false_eq_true] at h1
      rename_i b' off ds
      simp only [beq_iff_eq] at h1
      subst h1
      simp only [Info.pair, Bool.and_eq_true, hq, h2] at this
      have h9 := this.1.1
      rcases (by simpa using h9 : i = j ∨ _ ∧ ((A.getD i 0).testBit j = true ∧ j < i ∨ (A.getD j 0).testBit i = true ∧ i < j)) with h9 | h9
      · exact .inl h9
      · exact .inr h9.2
    · have := P2 i j hi hj
      cases hq : R i <;> simp only [hq, Rec.isNew, Bool.false_eq_true] at h1
      rename_i b' off ds
      simp only [beq_iff_eq] at h1
      subst h1
      simp only [Info.pair, Bool.and_eq_true, hq, h2] at this
      simpa using this.1.1
    · have := P1 i hi
      cases hq : R i <;> simp only [hq, Rec.isNew, Bool.false_eq_true] at h1
      simp only [beq_iff_eq] at h1
      subst h1
      simp only [Info.lone, hq, Nat.ble_eq] at this
      simp only [St.fs, List.getD_eq_getElem?_getD]
      rw [List.getElem?_eq_none (by omega)]; rfl
    · have := P2 i j hi hj
      have h1' : (readsOf ops l[i]).contains t = true := by simpa [hi] using h1
      simp only [Info.pair, Bool.and_eq_true, h2, h1'] at this
      simpa using this.1.2
    · have := P2 i j hi hj
      simp only [Info.pair, Bool.and_eq_true, h1, h2] at this
      simpa using this.2.1
    · have := P2 i j hi hj
      simp only [Info.pair, Bool.and_eq_true, h1, h2] at this
      simpa using this.2.2
    · have := P1 i hi
      cases hq : R i <;> simp only [hq, Rec.isStore, Bool.false_eq_true] at h1
      simp only [beq_iff_eq] at h1
      subst h1
      simpa [Info.lone, hq] using this
    · have := P1 i hi
      cases hq : R i <;> simp [Info.lone, hq] at this <;> rfl
  have hanc : ∀ (L : Nat → Bool), (∀ j (h : j < l.length), L j = true → ∀ d ∈ depsOf l[j], L d = true) → ∀ i (h : i < l.length), (∀ d ∈ depsOf l[i], L d = true) → ∀ k, (A.getD i 0).testBit k = true → L k = true :=
    fun L hcl => anc_closed hok hal hcl
  have hpre : ∀ i, ∀ j (h : j < l.length), (Nat.blt j i) = true → ∀ d ∈ depsOf l[j], (Nat.blt d i) = true := fun i j h hj d hd => by
    rw [Nat.blt_eq] at hj ⊢
    have := htop j h d hd; omega
  have hseq : ∀ i, i ≤ l.length → seqFS s.tmps.length s.fs dst R i = sL s.fs s.tmps.length l.length dst R (fun j => Nat.blt j i) := by
    intro i
    induction i with
    | zero =>
      intro _
      have : ∀ j, Nat.blt j 0 = false := fun j => by cases hq : Nat.blt j 0 with | false => rfl | true => rw [Nat.blt_eq] at hq; omega
      have hz : (fun j => Nat.blt j 0) = fun _ => false := funext this
      rw [hz]
      simp only [seqFS, sL, Bool.false_and]
      have hf : ∀ x : Option (List D), (List.range l.length).foldl (fun c j => if false = true then Option.map (R j).stored c else c) x = x := fun x => fold_none (p := fun _ => false) (f := fun j c => Option.map (R j).stored c) (fun _ _ => rfl)
      rw [find_none (fun _ _ => rfl)]
      simp only [hf]
    | succ i ih =>
      intro hi
      rw [seqFS, ih (by omega), sL_app ok (by omega) (by cases hq : Nat.blt i i with | false => rfl | true => rw [Nat.blt_eq] at hq; omega)
        (fun j hj hL k hk => hanc _ (hpre i) j hj (hpre i j hj hL) k hk)]
      congr 1
      funext j
      rw [Bool.eq_iff_iff, Bool.or_eq_true, Nat.blt_eq, Nat.blt_eq, beq_iff_eq]
      omega
  subst hP
  have hstep : ∀ (L : Nat → Bool) (i : Nat) (hi : i < l.length), L i = false → (∀ j (h : j < l.length), L j = true → ∀ d ∈ depsOf l[j], L d = true) → (∀ d ∈ depsOf l[i], L d = true) →
      ∀ (a : Act) (w : World), Rel c s.tmps.length (sL s.fs s.tmps.length l.length dst R L) a w → ∀ K : Act → World → Prop,
      (∀ a' w', Rel c s.tmps.length (sL s.fs s.tmps.length l.length dst R (fun j => L j || j == i)) a' w' → K a' w') → wpOp c.P ops Q i K a w := by
    intro L i hi hL hcl hrd a w hrel K hK
    obtain ⟨si, tri, tri', eqi, q1, q2, q3, q4⟩ := heach i hi
    rw [hR'] at q1
    rw [hAC'] at q3
    rw [hseq i (by omega)] at q4
    have hii : Nat.blt i i = false := by cases hq : Nat.blt i i with | false => rfl | true => rw [Nat.blt_eq] at hq; omega
    have hrd' : ∀ d ∈ depsOf l[i], Nat.blt d i = true := fun d hd => by rw [Nat.blt_eq]; exact htop i hi d hd
    have a1 := hanc L hcl i hi hrd
    have a2 := hanc _ (hpre i) i hi hrd'
    have c1 : ∀ j, j < l.length → L j = true → ∀ k, (A.getD j 0).testBit k = true → L k = true := fun j hj hLj => hanc L hcl j hj (hcl j hj hLj)
    have c2 : ∀ j, j < l.length → Nat.blt j i = true → ∀ k, (A.getD j 0).testBit k = true → Nat.blt k i = true := fun j hj hLj => hanc _ (hpre i) j hj (hpre i j hj hLj)
    have rd : ∀ t, t ∈ readsOf ops l[i] → (sL s.fs s.tmps.length l.length dst R (fun j => Nat.blt j i)).tmp t = (sL s.fs s.tmps.length l.length dst R L).tmp t := fun t ht =>
      sL_tmp (L := fun j => Nat.blt j i) (L' := L) ok hi hii hL a2 a1 c2 c1 (by simp [hi, ht])
    have q1' : opRec c.P inl ops l[i] ro gb (sL s.fs s.tmps.length l.length dst R L) si.blks tri = some (R i, tri', eqi) := by
      rw [q4] at q1
      refine opRec_congr (fun j want t hg hd => rd t ?_) (fun x hx => ?_) (fun b hb => ?_) q1 (ok.cPlain i hi)
      · simp [readsOf, hg, hd]
      · cases x with
        | tmp t => exact rd t (by simp only [readsOf, List.mem_append, List.mem_filterMap]; exact .inl ⟨.tmp t, hx, rfl⟩)
        | const v => rfl
        | global g => rfl
        | func f => rfl
      · rw [← q4, ← q3] at hb
        exact sL_blk (L := fun j => Nat.blt j i) (L' := L) ok hi hii hL a2 a1 c2 c1 hb
    have hoi : ops[i]? = some l[i] := by rw [hget]; simp [hi]
    unfold wpOp
    simp only [hoi]
    have := opRec_sound hinl rfl hGd hG h0 hgb hrel q1' q2 (fun b cs d hb => sL_fresh ok hi hL (by rw [hb]; simp [Rec.isNew])) (fun bl d hb => by have := ok.cPlain i hi; rw [hb] at this; cases this) (Q := Q) (K := K) (fun a' w' h' => hK a' w' (by
      rw [hdst' i hi, sL_app ok hi hL c1] at h'; exact h'))
    split
    · rename_i hw; rw [if_pos hw] at this; exact .inl this
    · rename_i hw; rw [if_neg hw] at this; exact this
  have main : ∀ (fuel : Nat) (listed : Array Bool) (a : Act) (w : World), listed.size = l.length →
      (∀ j (h : j < l.length), listed.getD j false = true → ∀ d ∈ depsOf l[j], listed.getD d false = true) → (List.range l.length).countP (fun j => !listed.getD j false) ≤ fuel →
      Rel c s.tmps.length (sL s.fs s.tmps.length l.length dst R (fun j => listed.getD j false)) a w → wpAny c.P .any ops Q fuel listed a w := by
    intro fuel
    have done : ∀ (listed : Array Bool) (a : Act) (w : World), listed.size = l.length → Region.ready .any ops listed = [] →
        Rel c s.tmps.length (sL s.fs s.tmps.length l.length dst R (fun j => listed.getD j false)) a w → Q .normal a w := by
      intro listed a w hs hrdy hrel
      have hall : ∀ i, i < l.length → listed.getD i false = true := by
        intro i
        induction i using Nat.strongRecOn with
        | _ i ih =>
          intro hi
          cases hq : listed.getD i false with
          | true => rfl
          | false =>
            have : i ∈ Region.ready .any ops listed := by
              rw [mem_ready]
              refine ⟨?_, l[i], by rw [hget]; simp [hi], fun e he' hb => ?_⟩
              · have : i < listed.size := by omega
                simp [Array.getD, this] at hq ⊢; exact hq
              · have hd : e.on ∈ depsOf l[i] := by
                  simp only [depsOf, List.mem_map, List.mem_filter]
                  exact ⟨e, ⟨by simpa using he', hb⟩, rfl⟩
                exact ih e.on (htop i hi _ hd) (by have := htop i hi _ hd; omega)
            rw [hrdy] at this; cases this
      refine hQ a w ?_
      rw [hfin, hseq l.length (Nat.le_refl _)]
      have e : sL s.fs s.tmps.length l.length dst R (fun j => Nat.blt j l.length) = sL s.fs s.tmps.length l.length dst R (fun j => listed.getD j false) := by
        have hb : ∀ j, j < l.length → Nat.blt j l.length = listed.getD j false := fun j hj => by rw [hall j hj, Nat.blt_eq]; exact hj
        simp only [sL]
        congr 1
        · funext t; congr 1; exact find_congr fun j hj => by rw [hb j hj]
        · funext b
          have e1 : (List.range l.length).find? (fun j => Nat.blt j l.length && (R j).isNew b) = (List.range l.length).find? (fun j => listed.getD j false && (R j).isNew b) := find_congr fun j hj => by rw [hb j hj]
          rw [e1]
          exact fold_congr fun j hj => by rw [hb j hj]
      rw [e]; exact hrel
    induction fuel with
    | zero =>
      intro listed a w hs hcl hcnt hrel
      have hall : ∀ i, i < l.length → listed.getD i false = true := fun i hi => by
        cases hq : listed.getD i false with
        | true => rfl
        | false =>
          have : 0 < (List.range l.length).countP (fun j => !listed.getD j false) := List.countP_pos_iff.2 ⟨i, by simpa using hi, by rw [hq]; rfl⟩
          omega
      have hrdy : Region.ready .any ops listed = [] := by
        cases hq : Region.ready .any ops listed with
        | nil => rfl
        | cons i r =>
          have : i ∈ Region.ready .any ops listed := by rw [hq]; simp
          rw [mem_ready] at this
          obtain ⟨h1, o, h2, _⟩ := this
          have hi : i < l.length := by rw [hget] at h2; exact (List.getElem?_eq_some_iff.1 h2).1
          have h3 := hall i hi
          have : i < listed.size := by omega
          simp [Array.getD, this] at h1 h3
          rw [h1] at h3; cases h3
      exact ⟨hrdy, done listed a w hs hrdy hrel⟩
    | succ fuel ih =>
      intro listed a w hs hcl hcnt hrel
      refine ⟨fun hrdy => done listed a w hs hrdy hrel, fun i hi => ?_⟩
      rw [mem_ready] at hi
      obtain ⟨h1, o, h2, h3⟩ := hi
      rw [hget] at h2
      obtain ⟨hil, rfl⟩ := List.getElem?_eq_some_iff.1 h2
      have hisz : i < listed.size := by omega
      have hLi : listed.getD i false = false := by simp [Array.getD, hisz] at h1 ⊢; exact h1
      have hdeps : ∀ d ∈ depsOf l[i], listed.getD d false = true := by
        intro d hd
        simp only [depsOf, List.mem_map, List.mem_filter] at hd
        obtain ⟨e, ⟨he1, he2⟩, rfl⟩ := hd
        exact h3 e (by simpa using he1) he2
      have hset : ∀ j, (listed.setIfInBounds i true).getD j false = (listed.getD j false || j == i) := by
        intro j
        by_cases hji : i = j
        · subst hji; simp [Array.getD, hisz]
        · rw [getD_set_ne false hji]; simp [Ne.symm hji]
      refine hstep (fun j => listed.getD j false) i hil hLi hcl hdeps a w hrel _ fun a' w' h' => ?_
      refine ih _ a' w' (by simpa using hs) (fun j hj hj2 d hd => ?_) ?_ ?_
      · rw [hset] at hj2 ⊢
        rw [Bool.or_eq_true] at hj2 ⊢
        rcases hj2 with hj2 | hj2
        · exact .inl (hcl j hj hj2 d hd)
        · simp only [beq_iff_eq] at hj2; subst hj2; exact .inl (hdeps d hd)
      · have := count_lt (l := List.range l.length) (p := fun j => !listed.getD j false) (q := fun j => !(listed.setIfInBounds i true).getD j false) (i := i) (by simpa using hil) (by rw [hLi]; rfl) (by rw [hset]; simp)
          (fun j _ hq => by rw [hset] at hq; simp at hq ⊢; exact hq.1)
        omega
      · have e : (fun j => (listed.setIfInBounds i true).getD j false) = fun j => listed.getD j false || j == i := funext hset
        rw [e]; exact h'
  refine wp_region_any hm ?_
  rw [hsz]
  refine main _ _ _ _ (by simp) (fun j hj hj2 => ?_) ?_ ?_
  · exfalso
    simp [Array.getD] at hj2
  · exact Nat.le_trans List.countP_le_length (by simp)
  · have hz : (fun j => (Array.replicate l.length false).getD j false) = fun j => Nat.blt j 0 := by
      funext j
      have : Nat.blt j 0 = false := by cases hq : Nat.blt j 0 with | false => rfl | true => rw [Nat.blt_eq] at hq; omega
      rw [this]
      simp [Array.getD]
    rw [hz, ← hseq 0 (Nat.zero_le _)]
    obtain ⟨β, X, hB⟩ := h
    exact ⟨β, X, hB.grow ((Below.refl _ _).drew)⟩
end Lw

namespace Lw
open Go Go.RowKit

variable {P : Program} {Good : World → Prop}

/-- What is kept; the rest is forgotten. -/
def keepL {α : Type} (none' : α) (keep : List Nat) : Nat → List α → List α
  | _, [] => []
  | i, x :: l => (if keep.contains i then x else none') :: keepL none' keep (i + 1) l
def St.mask (keepT keepB : List Nat) (s : St) : St where
  tmps := keepL .any keepT 0 s.tmps
  blks := keepL none keepB 0 (s.blks.take (topOf keepB))
def maskOk (gb : Nat) (keepT keepB : List Nat) (s : St) : Bool :=
  (keepT.all fun t => match (s.tmps.getD t .any).ref with
    | some b => keepB.contains b && (s.blks.getD b none).isSome
    | none => true) && (List.range gb).all fun b => keepB.contains b

theorem keepL_getD {α : Type} (z d : α) (keep : List Nat) : ∀ (i : Nat) (l : List α) (t : Nat), (keepL z keep i l).getD t d = if t < l.length then (if keep.contains (i + t) then l.getD t d else z) else d
  | i, [], t => by simp [keepL]
  | i, x :: l, t => by
    cases t with
    | zero => simp [keepL]
    | succ t =>
      have := keepL_getD z d keep (i + 1) l t
      simp only [keepL, List.getD_cons_succ, List.length_cons, this, Nat.add_assoc, Nat.add_comm 1 t, Nat.add_lt_add_iff_right]
theorem keepL_length {α : Type} (z : α) (keep : List Nat) : ∀ (i : Nat) (l : List α), (keepL z keep i l).length = l.length
  | i, [] => rfl
  | i, x :: l => by simp [keepL, keepL_length z keep (i + 1) l]
theorem topOf_lt {keep : List Nat} {b : Nat} (h : keep.contains b = true) : b < topOf keep := by
  induction keep with
  | nil => simp at h
  | cons x keep ih =>
    have : x < topOf (x :: keep) ∧ topOf keep ≤ topOf (x :: keep) := by
      show x < (if Nat.blt x (topOf keep) then topOf keep else x + 1) ∧ topOf keep ≤ (if Nat.blt x (topOf keep) then topOf keep else x + 1)
      split
      · rename_i h; rw [Nat.blt_eq] at h; exact ⟨h, Nat.le_refl _⟩
      · rename_i h; rw [Nat.blt_eq] at h; exact ⟨by omega, by omega⟩
    by_cases hx : b = x
    · rw [hx]; exact this.1
    · have := ih (by simpa [hx] using h)
      omega
theorem mask_fs (s : St) (keepT keepB : List Nat) :
    (∀ t, (s.mask keepT keepB).fs.tmp t = if keepT.contains t then s.fs.tmp t else .any) ∧ (∀ b, (s.mask keepT keepB).fs.blk b = if keepB.contains b then s.fs.blk b else none) := by
  refine ⟨fun t => ?_, fun b => ?_⟩
  · show (keepL .any keepT 0 s.tmps).getD t .any = _
    rw [keepL_getD, Nat.zero_add]
    by_cases h : t < s.tmps.length
    · rw [if_pos h]; rfl
    · rw [if_neg h]
      split
      · simp [St.fs, List.getD_eq_getElem?_getD, List.getElem?_eq_none (Nat.le_of_not_lt h)]
      · rfl
  · show (keepL none keepB 0 (s.blks.take (topOf keepB))).getD b none = _
    rw [keepL_getD, Nat.zero_add]
    by_cases hc : keepB.contains b = true
    · have hlt := topOf_lt hc
      rw [if_pos hc, if_pos hc]
      by_cases h : b < (s.blks.take (topOf keepB)).length
      · rw [if_pos h]
        simp [St.fs, List.getD_eq_getElem?_getD, hlt]
      · rw [if_neg h]
        have : s.blks.length ≤ b := by simp at h; omega
        simp [St.fs, List.getD_eq_getElem?_getD, List.getElem?_eq_none this]
    · rw [if_neg hc, if_neg hc]; split <;> rfl
theorem Rel.mask {c : Ctx} {n : Nat} {s : St} {a : Act} {w : World} {gb : Nat} {keepT keepB : List Nat} (h : Rel c n s.fs a w) (hgb : c.gb ≤ gb) (hok : maskOk gb keepT keepB s = true) : Rel c n (s.mask keepT keepB).fs a w := by
  obtain ⟨h1, h2⟩ := mask_fs s keepT keepB
  simp only [maskOk, Bool.and_eq_true, List.all_eq_true] at hok
  refine h.weaken (fun t => ?_) (fun b => ?_) (fun t b hb => ?_) (fun b hb => ?_)
  · rw [h1 t]; split
    · exact .inr rfl
    · exact .inl rfl
  · rw [h2 b]; split
    · exact .inr rfl
    · exact .inl rfl
  · rw [h1 t] at hb
    by_cases ht : keepT.contains t = true
    · rw [if_pos ht] at hb
      have := hok.1 t (by simpa using ht)
      have e : (s.tmps.getD t .any).ref = some b := hb
      rw [e] at this
      simp only [Bool.and_eq_true] at this
      rw [h2 b, if_pos this.1]; exact this.2
    · rw [if_neg ht] at hb; simp [D.ref] at hb
  · rw [h2 b, if_pos (hok.2 b (by simp; omega))]

/-- A block that is written no more, on lists. -/
def St.freeze (s : St) (b : Nat) (cs : List D) : St := ⟨s.tmps.map (D.thaw b cs), s.blks.set b none⟩
theorem freeze_fs {s : St} {b : Nat} {cs : List D} (h : s.blks.getD b none = some cs) : (s.freeze b cs).fs = s.fs.freeze b cs := by
  simp only [St.freeze, St.fs, FSt.freeze]
  congr 1
  · funext t
    simp only [List.getD_eq_getElem?_getD, List.getElem?_map]
    cases s.tmps[t]? with
    | none => rfl
    | some d => rfl
  · funext k; exact getD_set_blk s.blks b k _ (lt_of_live h)

theorem lay_len (n : Nat) (l : List (Nat × D)) (bl : List (Nat × List D)) : (lay n l bl).tmps.length = n := by simp [lay]
theorem find_of_map {α : Type} (f : Nat → α) (l : List (Nat × α)) (h : l.map (fun p => f p.1) = l.map (·.2)) (t : Nat) : (l.find? fun p => p.1 == t).map (·.2) = if (l.map (·.1)).contains t then some (f t) else none := by
  induction l with
  | nil => simp
  | cons p l ih =>
    simp only [List.map_cons, List.cons.injEq] at h
    by_cases hp : p.1 = t
    · rw [List.find?_cons_of_pos (by simpa using hp)]
      simp [hp, ← h.1]
    · rw [List.find?_cons_of_neg (by simpa using hp), ih h.2]
      have : (t == p.1) = false := by simpa using Ne.symm hp
      simp only [List.map_cons, List.contains_cons, this, Bool.false_or]
theorem lay_tmp (n : Nat) (l : List (Nat × D)) (bl : List (Nat × List D)) (t : Nat) : (lay n l bl).fs.tmp t = if t < n then ((l.find? fun p => p.1 == t).map (·.2)).getD .any else .any := by
  show ((List.range n).map fun t => ((l.find? fun p => p.1 == t).map (·.2)).getD D.any).getD t .any = _
  rw [List.getD_eq_getElem?_getD, List.getElem?_map]
  split
  · rw [List.getElem?_eq_getElem (by simpa)]; simp
  · rw [List.getElem?_eq_none (by simp; omega)]; rfl
theorem lay_blk (n : Nat) (l : List (Nat × D)) (bl : List (Nat × List D)) (b : Nat) : (lay n l bl).fs.blk b = if b < topOf (bl.map (·.1)) then (bl.find? fun p => p.1 == b).map (·.2) else none := by
  show ((List.range (topOf (bl.map (·.1)))).map fun b => (bl.find? fun p => p.1 == b).map (·.2)).getD b none = _
  rw [List.getD_eq_getElem?_getD, List.getElem?_map]
  split
  · rw [List.getElem?_eq_getElem (by simpa)]; simp
  · rw [List.getElem?_eq_none (by simp; omega)]; rfl
/-- What is kept of a frame, where it is known. -/
theorem mask_lay {s : St} {n : Nat} {l : List (Nat × D)} {bl : List (Nat × List D)} (hn : s.tmps.length = n) (h1 : (l.map fun p => s.tmps.getD p.1 .any) = l.map (·.2)) (h2 : (bl.map fun p => s.blks.getD p.1 none) = bl.map fun p => some p.2) :
    (s.mask (l.map (·.1)) (bl.map (·.1))).fs = (lay n l bl).fs := by
  obtain ⟨e1, e2⟩ := mask_fs s (l.map (·.1)) (bl.map (·.1))
  have f1 : ∀ t, (s.mask (l.map (·.1)) (bl.map (·.1))).fs.tmp t = (lay n l bl).fs.tmp t := by
    intro t
    rw [e1, lay_tmp, find_of_map (fun t => s.tmps.getD t .any) l h1 t]
    by_cases hc : (l.map (·.1)).contains t = true
    · rw [if_pos hc, if_pos hc]
      by_cases ht : t < n
      · rw [if_pos ht]; rfl
      · rw [if_neg ht]
        show s.tmps.getD t .any = .any
        rw [List.getD_eq_getElem?_getD, List.getElem?_eq_none (by omega)]; rfl
    · rw [if_neg hc, if_neg hc]; split <;> rfl
  have f2 : ∀ b, (s.mask (l.map (·.1)) (bl.map (·.1))).fs.blk b = (lay n l bl).fs.blk b := by
    intro b
    rw [e2]
    have h2' : (bl.map fun p => (p.1, some p.2)).map (fun p => s.blks.getD p.1 none) = (bl.map fun p => (p.1, some p.2)).map (·.2) := by simpa [List.map_map, Function.comp] using h2
    have := find_of_map (fun b => s.blks.getD b none) (bl.map fun p => (p.1, some p.2)) h2' b
    rw [List.find?_map] at this
    simp only [List.map_map] at this
    have e3 : ((fun x : Nat × Option (List D) => x.1) ∘ fun p : Nat × List D => (p.1, some p.2)) = fun p => p.1 := rfl
    have e4 : ((fun p : Nat × Option (List D) => p.1 == b) ∘ fun p : Nat × List D => (p.1, some p.2)) = fun p => p.1 == b := rfl
    rw [e3, e4] at this
    rw [lay_blk]
    by_cases hc : (bl.map (·.1)).contains b = true
    · rw [if_pos hc] at this ⊢
      rw [if_pos (topOf_lt hc)]
      cases hq : bl.find? (fun p => p.1 == b) with
      | none => rw [hq] at this; simp at this
      | some p => rw [hq] at this; simp at this ⊢; exact this.symm
    · rw [if_neg hc] at this ⊢
      cases hq : bl.find? (fun p => p.1 == b) with
      | some p => rw [hq] at this; simp at this
      | none => split <;> rfl
  show (⟨(s.mask (l.map (·.1)) (bl.map (·.1))).fs.tmp, (s.mask (l.map (·.1)) (bl.map (·.1))).fs.blk⟩ : FSt) = ⟨(lay n l bl).fs.tmp, (lay n l bl).fs.blk⟩
  rw [funext f1, funext f2]

abbrev Out (P : Program) (Good : World → Prop) := XEnd × St × List (Item P Good) × List (Got × Got)

/-- Rounds of a loop, one behind the other, till one of them leaves. -/
def iter (g : St → List (Item P Good) → Option (Out P Good)) : Nat → St → List (Item P Good) → Option (Out P Good)
  | 0, _, _ => none
  | m + 1, s, tr => match g s tr with
    | some (.normal, s1, tr1, e1) => match iter g m s1 tr1 with
      | some (e, s2, tr2, e2) => some (e, s2, tr2, e1 ++ e2)
      | none => none
    | r => r
/-- A loop: by what the prover handed, or round by round. -/
def runLoop (gb : Nat) (k : Code) (g : St → List (Item P Good) → Option (Out P Good)) (m : Nat) (s : St) (tr : List (Item P Good)) : Option (Out P Good) :=
  match tr with
  | .code (n := n) (gb := gb') (k := k') (l := l) (bl := bl) (e := e) (s' := s') _ :: tr' =>
    if maskOk gb (l.map (·.1)) (bl.map (·.1)) s && s'.tmps.length == s.tmps.length then
      some (e, s', tr', [(.code k s.tmps.length gb (l.map fun p => s.tmps.getD p.1 .any) (bl.map fun p => s.blks.getD p.1 none), .code k' n gb' (l.map (·.2)) (bl.map fun p => some p.2))]) else none
  | _ => iter g m s tr
/-- The results of a function off its frame, own places among them where one alone comes back. -/
def resultD (P : Program) (s : St) : ResultVar → Option D
  | .tmp t => some (s.tmps.getD t .any)
  | .cell x t => match tySize P t, tyAgg P t, s.tmps.getD x .any with
    | some sz, some ag, .ptr b off => match s.blks.getD b none with
      | some cs => if Nat.blt 0 sz && Nat.ble (off + sz) cs.length then some (if ag then .agg ((cs.drop off).take sz) else (cs.drop off).headD .any) else none
      | none => none
    | some sz, some ag, .rptr cs => if Nat.blt 0 sz && Nat.ble sz cs.length then some (if ag then .agg (cs.take sz) else cs.headD .any) else none
    | _, _, _ => none
def resultsD (P : Program) (s : St) : List ResultVar → Option (List D)
  | [] => some []
  | r :: rs => match resultD P s r, resultsD P s rs with
    | some d, some ds => some (d :: ds)
    | _, _ => none
/-- One result stands alone; several make a tuple. -/
def packD : List D → D
  | [d] => d
  | ds => .tup ds
def packV : List Value → Value
  | [v] => v
  | vs => .tuple vs.toArray
/-- The frame at the beginning. -/
def startS (n : Nat) (args : List D) (blks : List (Option (List D))) : St := ⟨args ++ List.replicate (n - args.length) (.lit undef), blks⟩
abbrev Runner (P : Program) (Good : World → Prop) := List Nat → Nat → Code → St → List (Item P Good) → Option (Out P Good)
/-- A callee is run in place. -/
def inlOf (P : Program) {Good : World → Prop} (g : Runner P Good) : Inline P Good := fun ro fn args blks tr =>
  match fn.body with
  | some k => if Nat.ble args.length fn.ntmps then
      match g ro blks.length k (startS fn.ntmps args blks) tr with
      | some (.normal, s, tr', eqs) | some (.ret, s, tr', eqs) => match resultsD P s fn.results.toList with
        | some ds => if ds.length == 1 || ds.all (fun d => d.ref.isNone) then some (packD ds, s.blks, tr', eqs) else none
        | none => none
      | _ => none
    else none
  | none => none
def runC (P : Program) {Good : World → Prop} : Nat → Runner P Good
  | 0, _, _, _, _, _ => none
  | m + 1, ro, gb, k, s, tr => match tr with
    | .freeze b :: tr1 => match s.blks.getD b none with
      | some cs => if Nat.ble gb b then match runC P m ro gb k (s.freeze b cs) tr1 with
          | some (e, s', tr', eqs) => some (e, s', tr', (.p True, .p True) :: eqs)
          | none => none
        else none
      | none => none
    | tr => match k with
      | .skip => some (.normal, s, tr, [])
      | .ret => some (.ret, s, tr, [])
      | .exit id => some (.exit id, s, tr, [])
      | .seq x y => match runC P m ro gb x s tr with
        | some (.normal, s1, tr1, e1) => match runC P m ro gb y s1 tr1 with
          | some (e, s2, tr2, e2) => some (e, s2, tr2, e1 ++ e2)
          | none => none
        | r => r
      | .cond x a b => match s.fs.ev x with
        | .lit (.bool true) => runC P m ro gb a s tr
        | .lit (.bool false) => runC P m ro gb b s tr
        | _ => none
      | .block id x => match runC P m ro gb x s tr with
        | some (.exit id', s1, tr1, e1) => if id' == id then some (.normal, s1, tr1, e1) else some (.exit id', s1, tr1, e1)
        | r => r
      | .region _ ops draw => match runOps P (inlOf P (runC P m)) ops ro gb ops.toList s tr with
        | some (s', tr', eqs, recs) => if draw then (if P.follows .mixedOrders && drawCheck ops s.blks.length ops.toList recs then some (.normal, s', tr', eqs) else none) else some (.normal, s', tr', eqs)
        | none => none
      | .loop x => runLoop gb (.loop x) (runC P m ro gb x) m s tr
      | _ => none

def XEnd.toExit : XEnd → Exit
  | .normal => .normal
  | .exit id => .exit id
  | .ret => .ret

/-- What a run shows of a piece of code. -/
def Shows (P : Program) (Good : World → Prop) (gb : Nat) (k : Code) (s : St) (e : XEnd) (s' : St) : Prop :=
  s'.tmps.length = s.tmps.length ∧ ∀ (c : Ctx) (Q : Exit → Act → World → Prop) (a : Act) (w : World), c.P = P → c.Good = Good → c.Good c.w0 → c.gb ≤ gb → Rel c s.tmps.length s.fs a w →
    (∀ a' w', Rel c s.tmps.length s'.fs a' w' → Q e.toExit a' w') → k.wp P Q a w

theorem abs_shows {n gb : Nat} {k : Code} {s s' : St} {e : XEnd} (h : Abs P Good n gb k s e s') (hn : s.tmps.length = n) (hn' : s'.tmps.length = n) : Shows P Good gb k s e s' := by
  refine ⟨by omega, fun c Q a w h1 h2 h3 hg h4 h5 => ?_⟩
  subst hn
  refine h c Q a w h1 h2 h3 hg h4 fun a' w' h' => ?_
  have := h5 a' w' h'
  cases e <;> exact this
theorem shows_abs {gb : Nat} {k : Code} {s s' : St} {e : XEnd} (h : Shows P Good gb k s e s') : Abs P Good s.tmps.length gb k s e s' := by
  intro c Q a w h1 h2 h3 hg h4 h5
  refine h.2 c Q a w h1 h2 h3 hg h4 fun a' w' h' => ?_
  have := h5 a' w' h'
  cases e <;> exact this

theorem iter_sound {gb : Nat} {body : Code} {g : St → List (Item P Good) → Option (Out P Good)}
    (hg : ∀ s tr e s' tr' eqs, g s tr = some (e, s', tr', eqs) → Agree eqs → Shows P Good gb body s e s') :
    ∀ (m : Nat) (s : St) (tr : List (Item P Good)) (e : XEnd) (s' : St) (tr' : List (Item P Good)) (eqs : List (Got × Got)), iter g m s tr = some (e, s', tr', eqs) → Agree eqs →
      s'.tmps.length = s.tmps.length ∧ e ≠ .normal ∧ ∀ (c : Ctx) (Q : Exit → Act → World → Prop) (a : Act) (w : World), c.P = P → c.Good = Good → c.Good c.w0 → c.gb ≤ gb → Rel c s.tmps.length s.fs a w →
        (∀ a' w', Rel c s.tmps.length s'.fs a' w' → Q e.toExit a' w') → Code.rounds P body Q m a w
  | 0, s, tr, e, s', tr', eqs, h, _ => by simp [iter] at h
  | m + 1, s, tr, e, s', tr', eqs, h, he => by
    simp only [iter] at h
    split at h
    · rename_i s1 tr1 e1 h1
      split at h
      · rename_i e2' s2 tr2 e2 h2
        simp only [Option.some.injEq, Prod.mk.injEq] at h
        obtain ⟨rfl, rfl, rfl, rfl⟩ := h
        obtain ⟨he1, he2⟩ := he.append
        obtain ⟨l1, w1⟩ := hg _ _ _ _ _ _ h1 he1
        obtain ⟨l2, n2, w2⟩ := iter_sound hg m _ _ _ _ _ _ h2 he2
        refine ⟨by omega, n2, fun c Q a w q1 q2 q3 qg q4 q5 => ?_⟩
        rw [rounds_succ]
        exact w1 c _ a w q1 q2 q3 qg q4 fun a' w' h' => w2 c Q a' w' q1 q2 q3 qg (by rw [l1]; exact h') (by rw [l1]; exact q5)
      · cases h
    · rename_i hne
      obtain ⟨l1, w1⟩ := hg _ _ _ _ _ _ h he
      have hnn : e ≠ .normal := by rintro rfl; exact hne _ _ _ h
      refine ⟨l1, hnn, fun c Q a w q1 q2 q3 qg q4 q5 => ?_⟩
      rw [rounds_succ]
      refine w1 c _ a w q1 q2 q3 qg q4 fun a' w' h' => ?_
      have := q5 a' w' h'
      cases e with
      | normal => exact absurd rfl hnn
      | exit id => exact this
      | ret => exact this

/-! ### Results. -/
theorem resultD_sound {c : Ctx} {n : Nat} {s : St} {a : Act} {w : World} {β : Nat → Nat} {X : Nat → Prop} (h : RelB c n s.fs a w β X) {r : ResultVar} {d : D} (e : resultD c.P s r = some d) :
    ∃ v, ((match r with | .tmp t => pure (a.tmps.getD t undef) | .cell x t => do loadVar t (← asAddr (a.tmps.getD x undef))) : Sem Value).run c.P w = .ok v w ∧ RepV β w X v d ∧ ∀ b, d.ref = some b → (s.fs.blk b).isSome = true := by
  unfold resultD at e
  split at e
  · rename_i t
    simp only [Option.some.injEq] at e
    subst e
    exact ⟨_, rfl, h.tmp t, h.nd t⟩
  · rename_i x t
    have hv := h.tmp x
    split at e
    · rename_i sz ag b off hs ha hx
      split at e
      · rename_i cs hb
        split at e
        · rename_i hc
          simp only [Bool.and_eq_true, Nat.blt_eq, Nat.ble_eq] at hc
          simp only [Option.some.injEq] at e
          subst e
          have hx' : s.fs.tmp x = .ptr b off := hx
          rw [hx'] at hv
          obtain ⟨us, e2, e3⟩ := own_cells h (off := off) hb
          obtain ⟨v, hrun, hrep⟩ := load_run hs ha e2 e3 hc.1 (by simp; omega)
          exact ⟨v, by simp [ptr_val hv, asAddr, hrun], .p hrep, fun b hb => by rw [repP_ref hrep] at hb; cases hb⟩
        · cases e
      · cases e
    · rename_i sz ag cs hs ha hx
      split at e
      · rename_i hc
        simp only [Bool.and_eq_true, Nat.blt_eq, Nat.ble_eq] at hc
        simp only [Option.some.injEq] at e
        subst e
        have hx' : s.fs.tmp x = .rptr cs := hx
        rw [hx'] at hv
        obtain ⟨ad, us, e1, e2, e3⟩ := rptr_cells (hv.pure rfl)
        obtain ⟨v, hrun, hrep⟩ := load_run hs ha e2 (fun i hi => (e3 i hi).2) hc.1 hc.2
        exact ⟨v, by simp [e1, asAddr, hrun], .p hrep, fun b hb => by rw [repP_ref hrep] at hb; cases hb⟩
      · cases e
    · cases e
theorem resultsD_sound {c : Ctx} {n : Nat} {s : St} {a : Act} {w : World} {β : Nat → Nat} {X : Nat → Prop} (h : RelB c n s.fs a w β X) :
    ∀ (rs : List ResultVar) (ds : List D), resultsD c.P s rs = some ds →
      ∃ vs, (rs.mapM fun r => ((match r with | .tmp t => pure (a.tmps.getD t undef) | .cell x t => do loadVar t (← asAddr (a.tmps.getD x undef))) : Sem Value)).run c.P w = .ok vs w ∧
        vs.length = ds.length ∧ (∀ i (h : i < vs.length) (h' : i < ds.length), RepV β w X vs[i] ds[i]) ∧ ∀ d ∈ ds, ∀ b, d.ref = some b → (s.fs.blk b).isSome = true
  | [], ds, e => by
    simp only [resultsD, Option.some.injEq] at e
    subst e
    exact ⟨[], by simp, rfl, fun i h => absurd h (by simp), fun d h => by simp at h⟩
  | r :: rs, ds, e => by
    simp only [resultsD] at e
    split at e
    · rename_i d ds' e1 e2
      simp only [Option.some.injEq] at e
      subst e
      obtain ⟨v, h1, h2, hl⟩ := resultD_sound h e1
      obtain ⟨vs, h3, h4, h5, h6⟩ := resultsD_sound h rs ds' e2
      refine ⟨v :: vs, by simp only [List.mapM_cons, Sem.run_bind, h1, h3, Result.andThen_ok, Sem.run_pure], by simp [h4], fun i hi hi' => ?_, fun d' hd' b hb => ?_⟩
      · cases i with
        | zero => exact h2
        | succ i => simpa using h5 i (by simpa using hi) (by simpa using hi')
      · rcases List.mem_cons.1 hd' with rfl | hd'
        · exact hl b hb
        · exact h6 d' hd' b hb
    · cases e
theorem pack_reps {w : World} {F : Nat → Prop} {vs : List Value} {ds : List D} (h : Reps w F vs ds) : RepP w F (packV vs) (packD ds) := by
  match vs, ds, h with
  | [v], [d], h2 => exact h2.head
  | [], [], h2 => exact .tup [] [] h2.1 h2.2
  | v :: v' :: vs, d :: d' :: ds, h2 => exact .tup _ _ h2.1 h2.2
  | [], d :: ds, h2 => have := h2.1; simp at this
  | v :: vs, [], h2 => have := h2.1; simp at this
  | [v], d :: d' :: ds, h2 => have := h2.1; simp at this
  | v :: v' :: vs, [d], h2 => have := h2.1; simp at this
theorem results_run {c : Ctx} {n : Nat} {s : St} {a : Act} {w : World} {β : Nat → Nat} {X : Nat → Prop} (h : RelB c n s.fs a w β X) {fn : Func} {ds : List D} (e : resultsD c.P s fn.results.toList = some ds) :
    ∃ vs, (results fn a.tmps).run c.P w = .ok (packV vs) w ∧
      vs.length = ds.length ∧ (∀ i (h : i < vs.length) (h' : i < ds.length), RepV β w X vs[i] ds[i]) ∧ ∀ d ∈ ds, ∀ b, d.ref = some b → (s.fs.blk b).isSome = true := by
  obtain ⟨vs, h1, h2, h3, h4⟩ := resultsD_sound h _ _ e
  have hm : (fn.results.mapM fun r => ((match r with | .tmp t => pure (a.tmps.getD t undef) | .cell x t => do loadVar t (← asAddr (a.tmps.getD x undef))) : Sem Value)).run c.P w = .ok vs.toArray w := by
    rw [Array.mapM_eq_mapM_toList, Sem.run_map, h1]; rfl
  refine ⟨vs, ?_, h2, h3, h4⟩
  have e2 : packV vs = if h : vs.toArray.size = 1 then vs.toArray[0] else .tuple vs.toArray := by
    match vs with
    | [] => rfl
    | [v] => rfl
    | v :: v' :: vs =>
      rw [dif_neg (by simp)]; rfl
  rw [e2]
  unfold results
  rw [Sem.run_bind]
  exact congrArg (fun r => Result.andThen r fun (a : Array Value) w' => Result.ok (if h : a.size = 1 then a[0] else Value.tuple a) w') hm

/-- The frame of a callee at its beginning. -/
theorem start_tmp {Q' : Value → D → Prop} {n : Nat} {vals : List Value} {args : List D} {blks : List (Option (List D))} (hl : vals.length = args.length) (hn : args.length ≤ n)
    (h1 : ∀ i (h : i < vals.length) (h' : i < args.length), Q' vals[i] args[i]) (h2 : Q' undef (.lit undef)) (h3 : Q' undef .any) (t : Nat) :
    Q' ((vals.toArray ++ Array.replicate (n - vals.toArray.size) undef).getD t undef) ((startS n args blks).fs.tmp t) := by
  show Q' _ ((args ++ List.replicate (n - args.length) (D.lit undef)).getD t .any)
  by_cases ht : t < args.length
  · have e1 : (args ++ List.replicate (n - args.length) (D.lit undef)).getD t .any = args[t] := by simp [List.getD_eq_getElem?_getD, List.getElem?_append_left ht, ht]
    have e2 : (vals.toArray ++ Array.replicate (n - vals.toArray.size) undef).getD t undef = vals[t] := by
      have : t < vals.length := by omega
      simp [Array.getD_eq_getD_getElem?, Array.getElem?_append, this]
    rw [e1, e2]
    exact h1 t (by omega) ht
  · have e2 : (vals.toArray ++ Array.replicate (n - vals.toArray.size) undef).getD t undef = undef := by
      have : ¬ t < vals.length := by omega
      simp [Array.getD_eq_getD_getElem?, Array.getElem?_append, this, Array.getElem?_replicate]
      split <;> rfl
    rw [e2]
    by_cases h2' : t < n
    · have e1 : (args ++ List.replicate (n - args.length) (D.lit undef)).getD t .any = .lit undef := by
        rw [List.getD_eq_getElem?_getD, List.getElem?_append_right (by omega), List.getElem?_replicate, if_pos (by omega)]; rfl
      rw [e1]; exact h2
    · have e1 : (args ++ List.replicate (n - args.length) (D.lit undef)).getD t .any = .any := by
        rw [List.getD_eq_getElem?_getD, List.getElem?_append_right (by omega), List.getElem?_replicate, if_neg (by omega)]; rfl
      rw [e1]; exact h3
theorem start_ref {n : Nat} {args : List D} {blks : List (Option (List D))} {p : Nat → Prop} (h : ∀ d ∈ args, ∀ b, d.ref = some b → p b) : ∀ t b, ((startS n args blks).fs.tmp t).ref = some b → p b := by
  intro t b hb
  have hb' : ((args ++ List.replicate (n - args.length) (D.lit undef)).getD t .any).ref = some b := hb
  by_cases ht : t < args.length
  · have e1 : (args ++ List.replicate (n - args.length) (D.lit undef)).getD t .any = args[t] := by simp [List.getD_eq_getElem?_getD, List.getElem?_append_left ht, ht]
    rw [e1] at hb'
    exact h _ (List.getElem_mem _) b hb'
  · rw [List.getD_eq_getElem?_getD, List.getElem?_append_right (by omega), List.getElem?_replicate] at hb'
    split at hb' <;> simp [D.ref] at hb'
theorem start_len {n : Nat} {args : List D} {blks : List (Option (List D))} (h : args.length ≤ n) : (startS n args blks).tmps.length = n := by simp [startS]; omega

/-- A callee that is run in place. -/
theorem inlOf_ok {g : Runner P Good} (hg : ∀ ro gb k s tr e s' tr' eqs, g ro gb k s tr = some (e, s', tr', eqs) → Agree eqs → Shows P Good gb k s e s') : InlOk P Good (inlOf P g) := by
  intro ro fn args blks tr d blks' tr' eqs h he
  unfold inlOf at h
  split at h
  · rename_i k hk
    split at h
    · rename_i hle
      rw [Nat.ble_eq] at hle
      have key : ∀ e s ds, g ro blks.length k (startS fn.ntmps args blks) tr = some (e, s, tr', eqs) → (e = .normal ∨ e = .ret) → resultsD P s fn.results.toList = some ds →
          (ds.length == 1 || ds.all (fun d => d.ref.isNone)) = true → Inl P Good fn args blks (packD ds) s.blks := by
        intro e s ds hr hend hds hpure f hf c w β X vals q1 q2 q3 q4 hrel hvl hreps hlive
        subst q1
        have hs := hg _ _ _ _ _ _ _ _ _ hr he
        have hlen := start_len (blks := blks) hle
        refine calls_of_wp hf hk ?_
        refine hs.2 c _ _ w rfl q2 q3 q4 ⟨β, X, rfl, ?_, fun t => ?_, ?_, hrel.blk, hrel.inj, hrel.F, hrel.Flt, hrel.Xlt, hrel.below, hrel.gh, hrel.ghnd⟩ fun a' w' h' => ?_
        · rw [hlen]; simp; omega
        · exact start_tmp (Q' := fun v d => RepV β w X v d) hvl hle hreps (.p (.lit _)) (.p (.any _)) t
        · exact start_ref (p := fun b => (((startS fn.ntmps args blks).fs).blk b).isSome = true) hlive
        · obtain ⟨β', X', hB⟩ := h'
          obtain ⟨vs, h1, h2, h3, h4⟩ := results_run hB hds
          have hpost : a'.defers = [] ∧ ∃ v, (results fn a'.tmps).run c.P w' = .ok v w' ∧ (∃ v' β' X', Ending.returned v = .returned v' ∧ RelB c 0 ⟨fun _ => .any, fun b => s.blks.getD b none⟩ ⟨#[], []⟩ w' β' X' ∧ RepV β' w' X' v' (packD ds) ∧
              ∀ b, (packD ds).ref = some b → (s.blks.getD b none).isSome = true) := by
            refine ⟨hB.defers, packV vs, h1, packV vs, β', X', rfl, ⟨rfl, rfl, fun t => .p (.any _), fun t b hb => by simp [D.ref] at hb, hB.blk, hB.inj, hB.F, hB.Flt, hB.Xlt, hB.below, hB.gh, hB.ghnd⟩, ?_⟩
            by_cases hone : ds.length = 1
            · obtain ⟨d, rfl⟩ := List.length_eq_one_iff.1 hone
              obtain ⟨v, rfl⟩ := List.length_eq_one_iff.1 (h2.trans hone)
              exact ⟨h3 0 (by simp) (by simp), h4 d (by simp)⟩
            · have hall : ∀ d ∈ ds, d.ref = none := by
                simp only [Bool.or_eq_true, beq_iff_eq, hone, false_or, List.all_eq_true] at hpure
                intro d hd
                simpa using hpure d hd
              have hreps : Reps w' X' vs ds := ⟨h2, fun i hi hi' => (h3 i hi hi').pure (hall _ (List.getElem_mem _))⟩
              have := pack_reps hreps
              exact ⟨.p this, fun b hb => by rw [repP_ref this] at hb; cases hb⟩
          rcases hend with rfl | rfl <;> exact hpost
      split at h
      · rename_i s tr2 eqs2 hr
        split at h
        · rename_i ds hds
          split at h
          · rename_i hp
            simp only [Option.some.injEq, Prod.mk.injEq] at h
            obtain ⟨rfl, rfl, rfl, rfl⟩ := h
            exact key _ _ _ hr (.inl rfl) hds hp
          · cases h
        · cases h
      · rename_i s tr2 eqs2 hr
        split at h
        · rename_i ds hds
          split at h
          · rename_i hp
            simp only [Option.some.injEq, Prod.mk.injEq] at h
            obtain ⟨rfl, rfl, rfl, rfl⟩ := h
            exact key _ _ _ hr (.inr rfl) hds hp
          · cases h
        · cases h
      · cases h
    · cases h
  · cases h

theorem runC_sound (hG : Steady Good) : ∀ (m : Nat) (ro : List Nat) (gb : Nat) (k : Code) (s : St) (tr : List (Item P Good)) (e : XEnd) (s' : St) (tr' : List (Item P Good)) (eqs : List (Got × Got)),
    runC P m ro gb k s tr = some (e, s', tr', eqs) → Agree eqs → Shows P Good gb k s e s'
  | 0, ro, gb, k, s, tr, e, s', tr', eqs, h, _ => by simp [runC] at h
  | m + 1, ro, gb, k, s, tr, e, s', tr', eqs, h, he => by
    have ih := runC_sound hG m
    unfold runC at h
    split at h
    · rename_i b tr1
      split at h
      · rename_i cs hcs
        split at h
        · rename_i hle
          rw [Nat.ble_eq] at hle
          split at h
          · rename_i e2 s2 tr2 eqs2 h2
            simp only [Option.some.injEq, Prod.mk.injEq] at h
            obtain ⟨rfl, rfl, rfl, rfl⟩ := h
            obtain ⟨l1, w1⟩ := ih _ _ _ _ _ _ _ _ _ h2 (fun x hx => he x (List.mem_cons_of_mem _ hx))
            have hl : (s.freeze b cs).tmps.length = s.tmps.length := by simp [St.freeze]
            rw [hl] at l1 w1
            refine ⟨l1, fun c Q a w q1 q2 q3 qg q4 q5 => w1 c Q a w q1 q2 q3 qg ?_ q5⟩
            obtain ⟨β, X, hB⟩ := q4
            rw [freeze_fs hcs]
            exact ⟨β, _, hB.freeze (b := b) hcs (by omega)⟩
          · cases h
        · cases h
      · cases h
    · split at h
      · simp only [Option.some.injEq, Prod.mk.injEq] at h
        obtain ⟨rfl, rfl, rfl, rfl⟩ := h
        exact ⟨rfl, fun c Q a w _ _ _ _ h4 h5 => wp_skip (h5 a w h4)⟩
      · simp only [Option.some.injEq, Prod.mk.injEq] at h
        obtain ⟨rfl, rfl, rfl, rfl⟩ := h
        exact ⟨rfl, fun c Q a w _ _ _ _ h4 h5 => wp_ret (h5 a w h4)⟩
      · simp only [Option.some.injEq, Prod.mk.injEq] at h
        obtain ⟨rfl, rfl, rfl, rfl⟩ := h
        exact ⟨rfl, fun c Q a w _ _ _ _ h4 h5 => wp_exit (h5 a w h4)⟩
      · rename_i x y
        split at h
        · rename_i s1 tr1 e1 h1
          split at h
          · rename_i e2' s2 tr2 e2 h2
            simp only [Option.some.injEq, Prod.mk.injEq] at h
            obtain ⟨rfl, rfl, rfl, rfl⟩ := h
            obtain ⟨he1, he2⟩ := he.append
            obtain ⟨l1, w1⟩ := ih _ _ _ _ _ _ _ _ _ h1 he1
            obtain ⟨l2, w2⟩ := ih _ _ _ _ _ _ _ _ _ h2 he2
            refine ⟨by omega, fun c Q a w q1 q2 q3 qg q4 q5 => wp_seq ?_⟩
            exact w1 c _ a w q1 q2 q3 qg q4 fun a' w' h' => w2 c Q a' w' q1 q2 q3 qg (by rw [l1]; exact h') (by rw [l1]; exact q5)
          · cases h
        · rename_i hne
          obtain ⟨l1, w1⟩ := ih _ _ _ _ _ _ _ _ _ h he
          refine ⟨l1, fun c Q a w q1 q2 q3 qg q4 q5 => wp_seq ?_⟩
          refine w1 c _ a w q1 q2 q3 qg q4 fun a' w' h' => ?_
          have := q5 a' w' h'
          cases e with
          | normal => exact absurd h (hne _ _ _)
          | exit id => exact this
          | ret => exact this
      · rename_i x k1 k2
        split at h
        · rename_i hx
          obtain ⟨l1, w1⟩ := ih _ _ _ _ _ _ _ _ _ h he
          refine ⟨l1, fun c Q a w q1 q2 q3 qg q4 q5 => wp_cond_true ?_ (w1 c Q a w q1 q2 q3 qg q4 q5)⟩
          obtain ⟨β, X, hB⟩ := q4
          exact ev_val hB (by rw [hx]; rfl)
        · rename_i hx
          obtain ⟨l1, w1⟩ := ih _ _ _ _ _ _ _ _ _ h he
          refine ⟨l1, fun c Q a w q1 q2 q3 qg q4 q5 => wp_cond_false ?_ (w1 c Q a w q1 q2 q3 qg q4 q5)⟩
          obtain ⟨β, X, hB⟩ := q4
          exact ev_val hB (by rw [hx]; rfl)
        · cases h
      · rename_i id x
        split at h
        · rename_i id' s1 tr1 e1 h1
          split at h
          · rename_i hid
            simp only [beq_iff_eq] at hid
            subst hid
            simp only [Option.some.injEq, Prod.mk.injEq] at h
            obtain ⟨rfl, rfl, rfl, rfl⟩ := h
            obtain ⟨l1, w1⟩ := ih _ _ _ _ _ _ _ _ _ h1 he
            refine ⟨l1, fun c Q a w q1 q2 q3 qg q4 q5 => wp_block ?_⟩
            refine w1 c _ a w q1 q2 q3 qg q4 fun a' w' h' => ?_
            show (if id' = id' then Q .normal a' w' else Q (.exit id') a' w')
            rw [if_pos rfl]; exact q5 a' w' h'
          · rename_i hid
            simp only [Option.some.injEq, Prod.mk.injEq] at h
            obtain ⟨rfl, rfl, rfl, rfl⟩ := h
            obtain ⟨l1, w1⟩ := ih _ _ _ _ _ _ _ _ _ h1 he
            refine ⟨l1, fun c Q a w q1 q2 q3 qg q4 q5 => wp_block ?_⟩
            refine w1 c _ a w q1 q2 q3 qg q4 fun a' w' h' => ?_
            show (if id' = id then Q .normal a' w' else Q (.exit id') a' w')
            rw [if_neg (by simpa using hid)]; exact q5 a' w' h'
        · rename_i hne
          obtain ⟨l1, w1⟩ := ih _ _ _ _ _ _ _ _ _ h he
          refine ⟨l1, fun c Q a w q1 q2 q3 qg q4 q5 => wp_block ?_⟩
          refine w1 c _ a w q1 q2 q3 qg q4 fun a' w' h' => ?_
          have := q5 a' w' h'
          cases e with
          | normal => exact this
          | exit id => exact absurd h (hne _ _ _ _)
          | ret => exact this
      · rename_i id ops draw
        split at h
        · rename_i s1 tr1 eqs1 recs h1
          split at h
          · rename_i hd
            split at h
            · rename_i hck
              simp only [Bool.and_eq_true] at hck
              simp only [Option.some.injEq, Prod.mk.injEq] at h
              obtain ⟨rfl, rfl, rfl, rfl⟩ := h
              refine ⟨runOps_len _ _ _ _ _ _ _ h1, fun c Q a w q1 q2 q3 qg q4 q5 => ?_⟩
              subst hd
              exact draw_sound (inlOf_ok ih) qg q1 q2 hG q3 hck.1 h1 he hck.2 q4 q5
            · cases h
          · rename_i hd
            have hd' : draw = false := by simpa using hd
            subst hd'
            simp only [Option.some.injEq, Prod.mk.injEq] at h
            obtain ⟨rfl, rfl, rfl, rfl⟩ := h
            exact ⟨runOps_len _ _ _ _ _ _ _ h1, fun c Q a w q1 q2 q3 qg q4 q5 => wp_region_list (runOps_sound (inlOf_ok ih) q1 q2 hG q3 qg _ _ _ _ _ _ _ a w h1 he q4 q5)⟩
        · cases h
      · rename_i x
        unfold runLoop at h
        split at h
        · rename_i n gb' k' l bl e' s2 habs tr2 _
          split at h
          · rename_i hok
            simp only [Bool.and_eq_true, beq_iff_eq] at hok
            simp only [Option.some.injEq, Prod.mk.injEq] at h
            obtain ⟨rfl, rfl, rfl, rfl⟩ := h
            have hag := he _ (List.mem_cons_self ..)
            simp only [Got.code.injEq] at hag
            obtain ⟨rfl, rfl, rfl, g1, g2⟩ := hag
            refine ⟨hok.2, fun c Q a w q1 q2 q3 qg q4 q5 => ?_⟩
            have q6 := q4.mask qg hok.1
            rw [mask_lay rfl g1 g2] at q6
            refine habs c Q a w q1 q2 q3 qg q6 fun a' w' h' => ?_
            have := q5 a' w' h'
            cases e' <;> exact this
          · cases h
        · obtain ⟨l1, n1, w1⟩ := iter_sound (fun s tr e s' tr' eqs hh ha => ih ro gb x s tr e s' tr' eqs hh ha) m s tr e s' tr' eqs h he
          exact ⟨l1, fun c Q a w q1 q2 q3 qg q4 q5 => wp_loop_rounds m (w1 c Q a w q1 q2 q3 qg q4 q5)⟩
      · cases h

/-! ### From runs to contracts. -/
def Item.says : Item P Good → Got
  | .call (f := f) (args := args) _ => .call f args
  | .eq _ (d := d) _ => .d d
  | .prop (p := p) _ => .p p
  | .code (n := n) (gb := gb) (k := k) (l := l) (bl := bl) _ => .code k n gb (l.map (·.2)) (bl.map fun p => some p.2)
  | .callN (f := f) (args := args) _ => .call f args
  | .inl _ (f := f) _ => .call f []
  | .freeze _ => .p True
def said (tr : List (Item P Good)) : List (Got × Got) := tr.map fun i => (i.says, i.says)
theorem agree_said (tr : List (Item P Good)) : Agree (said tr) := by
  intro e he
  simp only [said, List.mem_map] at he
  obtain ⟨i, _, rfl⟩ := he
  rfl

theorem Abs.of_run (hG : Steady Good) {ro : List Nat} {gb m : Nat} {k : Code} {s s' : St} {e : XEnd} (tr : List (Item P Good)) (h : runC P m ro gb k s tr = some (e, s', [], said tr)) :
    Abs P Good s.tmps.length gb k s e s' := shows_abs (runC_sound hG m ro gb k s tr e s' [] _ h (agree_said tr))
theorem Shows.of_run (hG : Steady Good) {ro : List Nat} {gb m : Nat} {k : Code} {s s' : St} {e : XEnd} (tr : List (Item P Good)) (h : runC P m ro gb k s tr = some (e, s', [], said tr)) :
    Shows P Good gb k s e s' := runC_sound hG m ro gb k s tr e s' [] _ h (agree_said tr)

/-- A function's run. -/
def runFn (P : Program) {Good : World → Prop} (ro : List Nat) (m : Nat) (fn : Func) (args : List D) (tr : List (Item P Good)) : Option (D × List (Item P Good) × List (Got × Got)) :=
  match fn.body with
  | some k => if Nat.ble args.length fn.ntmps then
      match runC P m ro 0 k (startS fn.ntmps args []) tr with
      | some (.normal, s, tr', eqs) | some (.ret, s, tr', eqs) => match resultsD P s fn.results.toList with
        | some ds => some (packD (ds.map (D.rowOf s.fs.blk)), tr', eqs)
        | none => none
      | _ => none
    else none
  | none => none

/-- ████ A contract off a run. -/
theorem Spec.of_run (hG : Steady Good) {f : FuncId} {fn : Func} (hf : P.funcs[f]? = some fn) {ro : List Nat} {m : Nat} {args : List D} {r : D} (tr : List (Item P Good))
    (h : runFn P ro m fn args tr = some (r, [], said tr)) : Spec P Good f args r := by
  intro w F vals hgood hargs hF
  unfold runFn at h
  split at h
  · rename_i k hk
    split at h
    · rename_i hle
      rw [Nat.ble_eq] at hle
      have key : ∀ e s, runC P m ro 0 k (startS fn.ntmps args []) tr = some (e, s, [], said tr) → (e = .normal ∨ e = .ret) → (∃ ds, resultsD P s fn.results.toList = some ds ∧ packD (ds.map (D.rowOf s.fs.blk)) = r) →
          Calls P f vals.toArray w fun e w' => ∃ v, e = .returned v ∧ RepP w' F v r ∧ Below w.heap.size w w' ∧ Good w' := by
        intro e s hr he hres
        obtain ⟨ds, hds, rfl⟩ := hres
        have hs := runC_sound hG m ro 0 k _ tr e s [] _ hr (agree_said tr)
        have hlen := start_len (blks := []) hle
        refine calls_of_wp hf hk ?_
        let c : Ctx := ⟨P, Good, F, w, [], 0⟩
        have hnone : ∀ b, (startS fn.ntmps args []).fs.blk b = none := fun b => by simp [startS, St.fs]
        refine hs.2 c _ _ w rfl rfl hgood (Nat.le_refl _) ⟨fun _ => 0, F, rfl, ?_, fun t => ?_, ?_, fun b cs hb => ?_, fun b b' hb => ?_, fun _ h => h, hF, hF, Below.refl _ _, fun p hp => ?_, fun p hp => ?_⟩ fun a' w' hrel => ?_
        · rw [hlen]; have := hargs.1; simp; omega
        · exact start_tmp (Q' := fun v d => RepV (fun _ => 0) w F v d) hargs.1 hle (fun i h1 h2 => .p (hargs.2 i h1 h2)) (.p (.lit _)) (.p (.any _)) t
        · refine start_ref fun d hd b hb => ?_
          obtain ⟨i, hi, rfl⟩ := List.mem_iff_getElem.1 hd
          rw [repP_ref (hargs.2 i (by rw [hargs.1]; exact hi) hi)] at hb; cases hb
        · rw [hnone] at hb; cases hb
        · rw [hnone] at hb; cases hb
        · cases hp
        · cases hp
        · obtain ⟨β, X, hB⟩ := hrel
          obtain ⟨vs, h1, h2, h3, h4⟩ := results_run (c := c) hB hds
          have hreps : Reps w' F vs (ds.map (D.rowOf s.fs.blk)) := by
            refine ⟨by simpa using h2, fun i hi hi' => ?_⟩
            rw [List.getElem_map]
            have hi2 : i < ds.length := by rw [← h2]; exact hi
            refine rowOf_rep hB (h3 i hi hi2) hB.F fun b hb k hk he => ?_
            obtain ⟨cs, hcs⟩ := Option.isSome_iff_exists.1 (h4 _ (List.getElem_mem _) b hb)
            have h5 := (hB.blk b cs hcs).1
            have h6 := hB.Flt k hk
            omega
          have hpost : a'.defers = [] ∧ ∃ v, (results fn a'.tmps).run P w' = .ok v w' ∧ (∃ v', Ending.returned v = .returned v' ∧ RepP w' F v' (packD (ds.map (D.rowOf s.fs.blk))) ∧ Below w.heap.size w w' ∧ Good w') :=
            ⟨hB.defers, packV vs, h1, packV vs, rfl, pack_reps hreps, hB.below, hB.good hG hgood⟩
          rcases he with rfl | rfl <;> exact hpost
      split at h
      · rename_i s tr' eqs hr
        split at h
        · rename_i ds hds
          simp only [Option.some.injEq, Prod.mk.injEq] at h
          obtain ⟨rfl, rfl, rfl⟩ := h
          exact key _ _ hr (.inl rfl) ⟨ds, hds, rfl⟩
        · cases h
      · rename_i s tr' eqs hr
        split at h
        · rename_i ds hds
          simp only [Option.some.injEq, Prod.mk.injEq] at h
          obtain ⟨rfl, rfl, rfl⟩ := h
          exact key _ _ hr (.inr rfl) ⟨ds, hds, rfl⟩
        · cases h
      · cases h
    · cases h
  · cases h

theorem slc_back {β : Nat → Nat} {w : World} {X : Nat → Prop} {v : Value} {b off len cap : Nat} (h : RepV β w X v (.slc b off len cap)) : v = .slice (some ⟨β b, off, none⟩) len cap ∧ cap ≤ maxLen := by
  cases h with
  | p hp => cases hp
  | slc _ _ _ _ _ h2 => exact ⟨rfl, h2⟩
/-- ████ The same where a slice over a new row of cells comes back. -/
theorem SpecN.of_run (hG : Steady Good) {f : FuncId} {fn : Func} (hf : P.funcs[f]? = some fn) {k : Code} (hk : fn.body = some k) {ro : List Nat} {m : Nat} {args : List D} {n : Nat} {cs : List D} {t : Tmp} (hle : args.length ≤ fn.ntmps) (hres : fn.results = #[.tmp t]) {e : XEnd} {b : Nat} (tr : List (Item P Good))
    (h : ((runC P m ro 0 k (startS fn.ntmps args []) tr).map fun o => (o.1, o.2.1.tmps.getD t .any, o.2.1.blks.getD b none, o.2.2.1, o.2.2.2)) = some (e, .slc b 0 n n, some cs, [], said tr)) (he : e = .normal ∨ e = .ret) : SpecN P Good f args n cs := by
  intro w F vals hgood hargs hF
  cases hr : runC P m ro 0 k (startS fn.ntmps args []) tr with
  | none => rw [hr] at h; cases h
  | some o =>
    obtain ⟨e1, s, tr1, eqs1⟩ := o
    rw [hr] at h
    simp only [Option.map_some, Option.some.injEq, Prod.mk.injEq] at h
    obtain ⟨rfl, hd, hc, rfl, rfl⟩ := h
    have hs := runC_sound hG m ro 0 k _ tr e1 s [] _ hr (agree_said tr)
    have hlen := start_len (blks := []) hle
    refine calls_of_wp hf hk ?_
    let c : Ctx := ⟨P, Good, F, w, [], 0⟩
    have hnone : ∀ b, (startS fn.ntmps args []).fs.blk b = none := fun b => by simp [startS, St.fs]
    refine hs.2 c _ _ w rfl rfl hgood (Nat.le_refl _) ⟨fun _ => 0, F, rfl, ?_, fun t => ?_, ?_, fun b cs hb => ?_, fun b b' hb => ?_, fun _ h => h, hF, hF, Below.refl _ _, fun p hp => ?_, fun p hp => ?_⟩ fun a' w' hrel => ?_
    · rw [hlen]; have := hargs.1; simp; omega
    · exact start_tmp (Q' := fun v d => RepV (fun _ => 0) w F v d) hargs.1 hle (fun i h1 h2 => .p (hargs.2 i h1 h2)) (.p (.lit _)) (.p (.any _)) t
    · refine start_ref fun d hd b hb => ?_
      obtain ⟨i, hi, rfl⟩ := List.mem_iff_getElem.1 hd
      rw [repP_ref (hargs.2 i (by rw [hargs.1]; exact hi) hi)] at hb; cases hb
    · rw [hnone] at hb; cases hb
    · rw [hnone] at hb; cases hb
    · cases hp
    · cases hp
    · obtain ⟨β, X, hB⟩ := hrel
      have hv := hB.tmp t
      have hd' : s.fs.tmp t = .slc b 0 n n := hd
      rw [hd'] at hv
      obtain ⟨q1, q2, us, ty, q3, q4, q5⟩ := hB.blk b cs hc
      have hpost : a'.defers = [] ∧ ∃ v, (results fn a'.tmps).run P w' = .ok v w' ∧ ∃ k us ty, Ending.returned v = .returned (.slice (some ⟨k, 0, none⟩) n n) ∧ n ≤ maxLen ∧ w.heap.size ≤ k ∧ w'.heap[k]? = some (.cells us ty (0, 0)) ∧ cs.length ≤ us.size ∧
          Reps w' (fun j => F j ∨ j = k) (us.toList.take cs.length) cs ∧ Below w.heap.size w w' ∧ Good w' := by
        have hds : resultsD c.P s fn.results.toList = some [.slc b 0 n n] := by rw [hres]; simp only [resultsD, resultD, hd]
        obtain ⟨vs, h1, h2, h3, h4⟩ := results_run (c := c) hB hds
        obtain ⟨v, rfl⟩ := List.length_eq_one_iff.1 h2
        have hv2 := h3 0 (by simp) (by simp)
        refine ⟨hB.defers, v, h1, β b, us, ty, ?_, ?_, q1, q3, q4, q5.mono (fun a u ha hx => ⟨ha, ?_⟩), hB.below, hB.good hG hgood⟩
        · have hv3 : RepV β w' X v (.slc b 0 n n) := hv2
          rw [(slc_back hv3).1]
        · exact (slc_back hv).2
        · rintro (hx2 | hx2)
          · exact hx (hB.F _ hx2)
          · exact hx (by rw [hx2]; exact q2)
      rcases he with rfl | rfl <;> exact hpost

/-- ████ A loop: 'inv' are the frames at the heads of rounds; each round comes to another head that is nearer, or leaves. -/
theorem Shows.loop {ι : Type} {gb : Nat} {body : Code} (R : ι → Prop) (inv : ι → St) (μ : ι → Nat) {n : Nat} {e : XEnd} {s' : St} (hlen : ∀ i, (inv i).tmps.length = n) (he : e ≠ .normal)
    (round : ∀ i, R i → (∃ j s1 kT kB, R j ∧ μ j < μ i ∧ Shows P Good gb body (inv i) .normal s1 ∧ maskOk gb kT kB s1 = true ∧ (s1.mask kT kB).fs = (inv j).fs) ∨
      (∃ s1 kT kB, Shows P Good gb body (inv i) e s1 ∧ maskOk gb kT kB s1 = true ∧ (s1.mask kT kB).fs = s'.fs)) (i : ι) (hi : R i) : Abs P Good n gb (.loop body) (inv i) e s' := by
  intro c Q a w h1 h2 h3 hg h4 h5
  have hend : ∀ a' w', Rel c n s'.fs a' w' → Q e.toExit a' w' := fun a' w' h' => by have := h5 a' w' h'; cases e <;> exact this
  refine wp_loop_ghost (fun k a w => ∃ i, μ i = k ∧ R i ∧ Rel c n (inv i).fs a w) (μ i) ⟨i, rfl, hi, h4⟩ fun k a w hk => ?_
  obtain ⟨i, rfl, hi, h4⟩ := hk
  rcases round i hi with ⟨j, s1, kT, kB, hj, hlt, hsh, hok, hm⟩ | ⟨s1, kT, kB, hsh, hok, hm⟩
  · refine hsh.2 c _ a w h1 h2 h3 hg (by rw [hlen]; exact h4) fun a' w' h' => ?_
    rw [hlen] at h'
    exact ⟨μ j, hlt, j, rfl, hj, by rw [← hm]; exact h'.mask hg hok⟩
  · refine hsh.2 c _ a w h1 h2 h3 hg (by rw [hlen]; exact h4) fun a' w' h' => ?_
    rw [hlen] at h'
    have := hend a' w' (by rw [← hm]; exact h'.mask hg hok)
    cases e with
    | normal => exact absurd rfl he
    | exit id => exact this
    | ret => exact this
end Lw
