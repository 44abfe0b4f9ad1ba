/- 'eff' tells the truth, all operations together. No condition. -/
import Derived.Test.YtmcpfihkambgnaaGreatLwA
import Derived.Tactics
import Derived.Orders
import Derived.LoopN
import Derived.Deep.LoopGhost
import Derived.TacticsIn
import Derived.OrdersIn
import Derived.LoopNIn
import Derived.Sort.LoopGhostIn
namespace Lw
open Go Go.RowKit

variable {c : Ctx} {n : Nat} {s : FSt} {a : Act} {w : World} {β : Nat → Nat} {X : Nat → Prop}

theorem callTarget_spec {P : Program} {d : D} {f : FuncId} {xs ys : List D} (h : callTarget P d = some (f, xs, ys)) :
    ((d = .lit (.func (.func f) #[] #[]) ∧ xs = [] ∧ ys = []) ∨ d = .fn f xs ys) ∧ ∃ fn, P.funcs[f]? = some fn ∧ fn.body.isSome = true ∧ (fn.name == "runtime.NumGoroutine") = false := by
  unfold callTarget at h
  split at h
  · split at h
    · rename_i fn hf
      split at h
      · rename_i hc
        simp only [Option.some.injEq, Prod.mk.injEq] at h
        obtain ⟨rfl, rfl, rfl⟩ := h
        simp only [Bool.and_eq_true, Bool.not_eq_true', beq_iff_eq] at hc
        rw [Array.eq_empty_of_size_eq_zero hc.1.1, Array.eq_empty_of_size_eq_zero hc.1.2]
        exact ⟨.inl ⟨rfl, rfl, rfl⟩, fn, hf, hc.2.1, hc.2.2⟩
      · cases h
    · cases h
  · split at h
    · rename_i fn hf
      split at h
      · rename_i hc
        simp only [Option.some.injEq, Prod.mk.injEq] at h
        obtain ⟨rfl, rfl, rfl⟩ := h
        simp only [Bool.and_eq_true, Bool.not_eq_true'] at hc
        exact ⟨.inr rfl, fn, hf, hc.1, hc.2⟩
      · cases h
    · cases h
  · cases h

theorem eff_sound (h : RelB c n s a w β X) {o : Oper} {nb : Nat} {ro fz : Bool} {gb : Nat} (hgb : c.gb ≤ gb) {E : Eff} {nd : Need} (he : eff c.P o s.ev s.blk s.nst nb ro gb fz = some (E, nd)) (hn : nd.ok) :
    EffOk c n s a w β X nb o E := by
  unfold eff at he
  split at he
  case h_1 x ho => simp only [Option.some.injEq, Prod.mk.injEq] at he; obtain ⟨rfl, rfl⟩ := he; exact ok_move h (.inl ho)
  case h_2 x ho => simp only [Option.some.injEq, Prod.mk.injEq] at he; obtain ⟨rfl, rfl⟩ := he; exact ok_move h (.inr ho)
  case h_3 k x y ho =>
    split at he
    · rename_i hk; simp only [Option.some.injEq, Prod.mk.injEq] at he; obtain ⟨rfl, rfl⟩ := he; exact ok_pick h ho true hk
    · rename_i hk; simp only [Option.some.injEq, Prod.mk.injEq] at he; obtain ⟨rfl, rfl⟩ := he; exact ok_pick h ho false hk
    · cases he
  case h_4 el ho =>
    cases fz
    case true =>
      simp only at he
      split at he
      · rename_i zs hz
        simp only [Option.some.injEq, Prod.mk.injEq] at he; obtain ⟨rfl, rfl⟩ := he
        exact ok_allocB ho hz
      · cases he
    simp only at he
    split at he
    · rename_i zs hz
      have := ok_alloc h (nb := nb) (ro := ro) ho hz
      split at he <;> simp only [Option.some.injEq, Prod.mk.injEq] at he <;> obtain ⟨rfl, rfl⟩ := he <;> simp_all
    · cases he
  case h_5 el x ho =>
    split at he
    · rename_i cs hc
      split at he
      · rename_i hro
        simp only [Bool.and_eq_true, Bool.not_eq_true'] at hro
        have := ok_box h (nb := nb) (ro := true) ho hc (fun _ => hro.2)
        simp only [Option.some.injEq, Prod.mk.injEq] at he; obtain ⟨rfl, rfl⟩ := he; exact this
      · have := ok_box h (nb := nb) (ro := false) ho hc (fun h => by cases h)
        simp only [Option.some.injEq, Prod.mk.injEq] at he; obtain ⟨rfl, rfl⟩ := he; exact this
    · cases he
  case h_6 t parts ho =>
    split at he
    · rename_i cs hc; simp only [Option.some.injEq, Prod.mk.injEq] at he; obtain ⟨rfl, rfl⟩ := he; exact ok_build h ho hc
    · cases he
  case h_7 t len parts ho =>
    split at he
    · rename_i cs hc
      split at he
      · cases he
      · rename_i hp
        split at he
        · rename_i hro
          have := ok_buildSlice h (nb := nb) ho hc (by simpa using hp) true
          simp only [Option.some.injEq, Prod.mk.injEq] at he; obtain ⟨rfl, rfl⟩ := he; exact this
        · have := ok_buildSlice h (nb := nb) ho hc (by simpa using hp) false
          simp only [Option.some.injEq, Prod.mk.injEq] at he; obtain ⟨rfl, rfl⟩ := he; exact this
    · cases he
  case h_8 t x ho =>
    split at he
    · rename_i sz ag hs ha
      split at he
      · rename_i cs hx; simp only [Option.some.injEq, Prod.mk.injEq] at he; obtain ⟨rfl, rfl⟩ := he
        simp only [need_ok] at hn; exact ok_load_rptr h ho hs ha hx hn.1 hn.2
      · rename_i b off hx
        split at he
        · rename_i cs hb; simp only [Option.some.injEq, Prod.mk.injEq] at he; obtain ⟨rfl, rfl⟩ := he
          simp only [need_ok] at hn; exact ok_load_ptr h ho hs ha hx hb hn.1 hn.2
        · cases he
      · cases he
    · cases he
  case h_9 t x y ho =>
    split at he
    · rename_i b off ds sz hx hy hs
      split at he
      · rename_i cs hb
        split at he
        · rename_i hc; simp only [Option.some.injEq, Prod.mk.injEq] at he; obtain ⟨rfl, rfl⟩ := he
          simp only [Bool.and_eq_true, beq_iff_eq] at hc
          simp only [need_ok] at hn; exact ok_store h ho hs hx hy hb hc.1 hc.2 hn
        · cases he
      · cases he
    · cases he
  case h_10 op t x y u ho =>
    split at he
    · rename_i k p k' q hx hy
      split at he
      · split at he
        · rename_i hk; subst hk; simp only [Option.some.injEq, Prod.mk.injEq] at he; obtain ⟨rfl, rfl⟩ := he
          simp only [need_ok] at hn; exact ok_quo h ho hx hy hn
        · cases he
      · split at he
        · rename_i hk; subst hk; simp only [Option.some.injEq, Prod.mk.injEq] at he; obtain ⟨rfl, rfl⟩ := he
          simp only [need_ok] at hn; exact ok_rem h ho hx hy hn
        · cases he
      · simp only [Option.some.injEq, Prod.mk.injEq] at he; obtain ⟨rfl, rfl⟩ := he
        simp only [need_ok] at hn; exact ok_shl h ho hx hy hn
      · simp only [Option.some.injEq, Prod.mk.injEq] at he; obtain ⟨rfl, rfl⟩ := he
        simp only [need_ok] at hn; exact ok_shr h ho hx hy hn
      · split at he
        · rename_i v hv; simp only [Option.some.injEq, Prod.mk.injEq] at he; obtain ⟨rfl, rfl⟩ := he; exact ok_binOp h ho hx hy hv
        · cases he
    · rename_i p q hx hy
      split at he
      · simp only [Option.some.injEq, Prod.mk.injEq] at he; obtain ⟨rfl, rfl⟩ := he
        simp only [need_ok] at hn; exact ok_cat h ho hx hy hn
      · split at he
        · rename_i v hv; simp only [Option.some.injEq, Prod.mk.injEq] at he; obtain ⟨rfl, rfl⟩ := he; exact ok_binOp h ho hx hy hv
        · cases he
    · rename_i va vb _ _ hx hy
      split at he
      · rename_i v hv; simp only [Option.some.injEq, Prod.mk.injEq] at he; obtain ⟨rfl, rfl⟩ := he; exact ok_binOp h ho hx hy hv
      · cases he
    · split at he
      · rename_i e hte _ _ _
        split at he
        · rename_i hs; simp only [Option.some.injEq, Prod.mk.injEq] at he; obtain ⟨rfl, rfl⟩ := he; exact ok_notNil h ho hte hs (.inl rfl)
        · rename_i hs; simp only [Option.some.injEq, Prod.mk.injEq] at he; obtain ⟨rfl, rfl⟩ := he; exact ok_notNil h ho hte hs (.inr rfl)
        · split at he
          · rename_i hs _ _; simp only [Option.some.injEq, Prod.mk.injEq] at he; obtain ⟨rfl, rfl⟩ := he; exact ok_isNil h ho hte (by assumption) (.inl rfl)
          · rename_i hs _ _; simp only [Option.some.injEq, Prod.mk.injEq] at he; obtain ⟨rfl, rfl⟩ := he; exact ok_isNil h ho hte (by assumption) (.inr rfl)
          · cases he
      · cases he
  case h_11 x ho =>
    split at he
    · rename_i b off hx; simp only [Option.some.injEq, Prod.mk.injEq] at he; obtain ⟨rfl, rfl⟩ := he; exact ok_nilCheck_ptr h ho hx
    · rename_i cs hx; simp only [Option.some.injEq, Prod.mk.injEq] at he; obtain ⟨rfl, rfl⟩ := he; exact ok_nilCheck_rptr h ho hx
    · cases he
  case h_12 fn first caps ho =>
    split at he
    · split at he
      · rename_i hc
        simp only [Bool.and_eq_true, List.all_eq_true, List.isEmpty_iff] at hc
        simp only [Option.some.injEq, Prod.mk.injEq] at he; obtain ⟨rfl, rfl⟩ := he; exact ok_makeFunc h ho hc.1 hc.2
      · cases he
    · cases he
  case h_13 op t x ho =>
    split at he
    · rename_i va hx
      split at he
      · rename_i v hv; simp only [Option.some.injEq, Prod.mk.injEq] at he; obtain ⟨rfl, rfl⟩ := he; exact ok_unOp h ho hx hv
      · cases he
    · cases he
  case h_14 t u x ho =>
    split at he
    · rename_i va hx
      split at he
      · rename_i v hv; simp only [Option.some.injEq, Prod.mk.injEq] at he; obtain ⟨rfl, rfl⟩ := he; exact ok_convert h ho hx hv
      · cases he
    · cases he
  case h_15 t x ho =>
    split at he
    · rename_i va hx
      split at he
      · rename_i v hv; simp only [Option.some.injEq, Prod.mk.injEq] at he; obtain ⟨rfl, rfl⟩ := he; exact ok_makeInterface h ho hx hv
      · cases he
    · cases he
  case h_16 x t u ok ho =>
    split at he
    · rename_i va hx
      split at he
      · rename_i vs hv; simp only [Option.some.injEq, Prod.mk.injEq] at he; obtain ⟨rfl, rfl⟩ := he; exact ok_typeAssert h ho hx hv
      · rename_i v hnt hv; simp only [Option.some.injEq, Prod.mk.injEq] at he; obtain ⟨rfl, rfl⟩ := he
        have := ok_typeAssert h (nb := nb) ho hx hv
        cases v with
        | tuple vs => exact absurd rfl (hnt vs)
        | _ => exact this
      · cases he
    · cases he
  case h_17 t x f ho =>
    split at he
    · rename_i off ft hf
      split at he
      · rename_i sz hs
        split at he
        · rename_i h0
          simp only [Nat.blt_eq] at h0
          split at he
          · rename_i b o' hx; simp only [Option.some.injEq, Prod.mk.injEq] at he; obtain ⟨rfl, rfl⟩ := he; exact ok_fieldAddr_ptr h ho hf hs h0 hx
          · rename_i cs hx; simp only [Option.some.injEq, Prod.mk.injEq] at he; obtain ⟨rfl, rfl⟩ := he; exact ok_fieldAddr_rptr h ho hf hs h0 hx
          · cases he
        · cases he
      · cases he
    · cases he
  case h_18 t x f ho =>
    split at he
    · rename_i off ft cs hf hx
      split at he
      · rename_i sz ag hs ha; simp only [Option.some.injEq, Prod.mk.injEq] at he; obtain ⟨rfl, rfl⟩ := he
        simp only [need_ok] at hn; exact ok_field h ho hf hs ha hx hn
      · cases he
    · cases he
  case h_19 t x ix ho =>
    split at he
    · rename_i e k i ht hix
      split at he
      · rename_i sz hs
        split at he
        · rename_i len full cs hx; simp only [Option.some.injEq, Prod.mk.injEq] at he; obtain ⟨rfl, rfl⟩ := he
          simp only [need_ok] at hn; exact ok_indexAddr_row h ho ht hs hix hx hn.1 hn.2
        · rename_i b off len cap hx; simp only [Option.some.injEq, Prod.mk.injEq] at he; obtain ⟨rfl, rfl⟩ := he
          simp only [need_ok] at hn; exact ok_indexAddr_slc h ho ht hs hix hx hn
        · rename_i b len size hx; simp only [Option.some.injEq, Prod.mk.injEq] at he; obtain ⟨rfl, rfl⟩ := he
          simp only [need_ok] at hn; exact ok_indexAddr_gsl h ho ht hs hix hx hn
        · cases he
      · cases he
    · rename_i m e k i ht hix
      split at he
      · rename_i sz hs
        split at he
        · rename_i cs hx; simp only [Option.some.injEq, Prod.mk.injEq] at he; obtain ⟨rfl, rfl⟩ := he
          simp only [need_ok] at hn; exact ok_indexAddr_rptr h ho ht hs hix hx hn
        · rename_i b off hx; simp only [Option.some.injEq, Prod.mk.injEq] at he; obtain ⟨rfl, rfl⟩ := he
          simp only [need_ok] at hn; exact ok_indexAddr_ptr h ho ht hs hix hx hn
        · cases he
      · cases he
    · cases he
  case h_20 t x ix ho =>
    split at he
    · rename_i k i hix
      split at he
      · rename_i m e cs ht hx
        split at he
        · rename_i sz ag hs ha; simp only [Option.some.injEq, Prod.mk.injEq] at he; obtain ⟨rfl, rfl⟩ := he
          simp only [need_ok] at hn; exact ok_index h ho ht hs ha hix hx hn.1 hn.2
        · cases he
      · rename_i d ht hx
        split at he
        · rename_i b hst hb; simp only [Option.some.injEq, Prod.mk.injEq] at he; obtain ⟨rfl, rfl⟩ := he
          simp only [need_ok] at hn; exact ok_index_str h ho hst hix hb hn
        · cases he
      · cases he
    · cases he
  case h_21 x i ho =>
    split at he
    · rename_i ds hx
      split at he
      · rename_i d hd; simp only [Option.some.injEq, Prod.mk.injEq] at he; obtain ⟨rfl, rfl⟩ := he; exact ok_extract h ho hx hd
      · cases he
    · cases he
  case h_22 t x lo hi ho =>
    split at he
    · rename_i e ht
      split at he
      · rename_i sz len full cs k1 l hs hx hlo
        split at he
        · rename_i k2 u hhi; simp only [Option.some.injEq, Prod.mk.injEq] at he; obtain ⟨rfl, rfl⟩ := he
          simp only [need_ok] at hn; exact ok_slice_row h ho ht hs hx hlo hhi hn
        · cases he
      · rename_i sz b off len cap k1 l hs hx hlo
        split at he
        · rename_i k2 u hhi; simp only [Option.some.injEq, Prod.mk.injEq] at he; obtain ⟨rfl, rfl⟩ := he
          simp only [need_ok] at hn; exact ok_slice_slc h ho ht hs hx hlo hhi hn
        · cases he
      · rename_i sz b len size k1 l hs hx hlo
        split at he
        · rename_i k2 u hhi
          split at he
          · rename_i hl0
            simp only [beq_iff_eq] at hl0
            subst hl0
            simp only [Option.some.injEq, Prod.mk.injEq] at he; obtain ⟨rfl, rfl⟩ := he
            simp only [need_ok] at hn; exact ok_slice_gsl h ho ht hs hx hlo hhi hn
          · cases he
        · cases he
      · cases he
    · rename_i m e ht
      split at he
      · rename_i sz cs k1 l hs hx hlo
        split at he
        · rename_i k2 u hhi; simp only [Option.some.injEq, Prod.mk.injEq] at he; obtain ⟨rfl, rfl⟩ := he
          simp only [need_ok] at hn; exact ok_slice_array h ho ht hs hx hlo hhi hn
        · cases he
      · cases he
    · split at he
      · rename_i b k1 l k2 u hst hx hlo hhi; simp only [Option.some.injEq, Prod.mk.injEq] at he; obtain ⟨rfl, rfl⟩ := he
        simp only [need_ok] at hn; exact ok_slice_str h ho hst hx hlo hhi hn
      · cases he
  case h_23 t l k ho =>
    split at he
    · rename_i e len cap ht hl hk
      split at he
      · rename_i z i hz hs hi; simp only [Option.some.injEq, Prod.mk.injEq] at he; obtain ⟨rfl, rfl⟩ := he
        simp only [need_ok] at hn; exact ok_makeSlice h ho ht hl hk hz hs hi hn
      · rename_i zs m i _ hz hs hi
        split at he
        · rename_i hc
          simp only [Bool.and_eq_true, beq_iff_eq, Nat.blt_eq] at hc
          simp only [Option.some.injEq, Prod.mk.injEq] at he; obtain ⟨rfl, rfl⟩ := he
          simp only [need_ok] at hn; exact ok_makeSliceN h ho ht hl hk hz hs hi hc.1 hc.2 hn
        · cases he
      · cases he
    · cases he
  case h_24 k ho =>
    split at he
    · rename_i x hk
      split at he
      · rename_i f first caps hf
        obtain ⟨h1, fn, h2, h3, h4⟩ := callTarget_spec hf
        simp only [Option.some.injEq, Prod.mk.injEq] at he; obtain ⟨rfl, rfl⟩ := he
        rcases h1 with ⟨h1, rfl, rfl⟩ | h1
        · have := ok_call h (nb := nb) ho hk h1 h2 h3 h4
          rw [List.nil_append, List.append_nil]; exact this
        · exact ok_callF h ho hk h1 h2 h3 h4
      · cases he
    · rename_i hk
      split at he
      · rename_i b off len cap m full xs t t' hl ht
        obtain ⟨x, y, hx1, hx2, hx3⟩ : ∃ x y, k.args.toList = [x, y] ∧ s.ev x = .slc b off len cap ∧ s.ev y = .row m full xs := by
          cases hk' : k.args.toList with
          | nil => rw [hk'] at hl; cases hl
          | cons x r => cases r with
            | nil => rw [hk'] at hl; simp at hl
            | cons y r => cases r with
              | nil => rw [hk'] at hl; simp only [List.map_cons, List.map_nil, List.cons.injEq, and_true] at hl; exact ⟨x, y, rfl, hl.1, hl.2⟩
              | cons y r => rw [hk'] at hl; simp at hl
        split at he
        · rename_i e cs hte hb
          split at he
          · rename_i sz hs
            split at he
            · rename_i htt
              simp only [beq_iff_eq] at htt
              subst htt
              simp only [Option.some.injEq, Prod.mk.injEq] at he; obtain ⟨rfl, rfl⟩ := he
              simp only [need_ok] at hn; exact ok_copy h ho hk hx1 ht hte hs hx2 hx3 hb hn
            · cases he
          · cases he
        · cases he
      · rename_i b len gz m full xs t t' hl ht
        obtain ⟨x, y, hx1, hx2, hx3⟩ : ∃ x y, k.args.toList = [x, y] ∧ s.ev x = .gsl b len gz ∧ s.ev y = .row m full xs := by
          cases hk' : k.args.toList with
          | nil => rw [hk'] at hl; cases hl
          | cons x r => cases r with
            | nil => rw [hk'] at hl; simp at hl
            | cons y r => cases r with
              | nil => rw [hk'] at hl; simp only [List.map_cons, List.map_nil, List.cons.injEq, and_true] at hl; exact ⟨x, y, rfl, hl.1, hl.2⟩
              | cons y r => rw [hk'] at hl; simp at hl
        split at he
        · rename_i e cs hte hb
          split at he
          · rename_i sz hs
            split at he
            · rename_i htt
              simp only [beq_iff_eq] at htt
              subst htt
              simp only [Option.some.injEq, Prod.mk.injEq] at he; obtain ⟨rfl, rfl⟩ := he
              simp only [need_ok] at hn; exact ok_copy_gsl h ho hk hx1 ht hte hs hx2 hx3 hb hn
            · cases he
          · cases he
        · cases he
      · cases he
    · rename_i hk
      split at he
      · rename_i len full xs hl
        obtain ⟨x, hx1, hx2⟩ : ∃ x, k.args.toList = [x] ∧ s.ev x = .row len full xs := by
          cases hk' : k.args.toList with
          | nil => rw [hk'] at hl; cases hl
          | cons x r => cases r with
            | nil => rw [hk'] at hl; simp only [List.map_cons, List.map_nil, List.cons.injEq, and_true] at hl; exact ⟨x, rfl, hl⟩
            | cons y r => rw [hk'] at hl; simp at hl
        split at he
        · rename_i t ht
          split at he
          · rename_i e hte; simp only [Option.some.injEq, Prod.mk.injEq] at he; obtain ⟨rfl, rfl⟩ := he; exact ok_len_row h ho hk hx1 ht hte hx2
          · cases he
        · cases he
      · rename_i b off len cap hl
        obtain ⟨x, hx1, hx2⟩ : ∃ x, k.args.toList = [x] ∧ s.ev x = .slc b off len cap := by
          cases hk' : k.args.toList with
          | nil => rw [hk'] at hl; cases hl
          | cons x r => cases r with
            | nil => rw [hk'] at hl; simp only [List.map_cons, List.map_nil, List.cons.injEq, and_true] at hl; exact ⟨x, rfl, hl⟩
            | cons y r => rw [hk'] at hl; simp at hl
        split at he
        · rename_i t ht
          split at he
          · rename_i e hte; simp only [Option.some.injEq, Prod.mk.injEq] at he; obtain ⟨rfl, rfl⟩ := he; exact ok_len_slc h ho hk hx1 ht hte hx2
          · cases he
        · cases he
      · rename_i b len sz hl
        obtain ⟨x, hx1, hx2⟩ : ∃ x, k.args.toList = [x] ∧ s.ev x = .gsl b len sz := by
          cases hk' : k.args.toList with
          | nil => rw [hk'] at hl; cases hl
          | cons x r => cases r with
            | nil => rw [hk'] at hl; simp only [List.map_cons, List.map_nil, List.cons.injEq, and_true] at hl; exact ⟨x, rfl, hl⟩
            | cons y r => rw [hk'] at hl; simp at hl
        split at he
        · rename_i t ht
          split at he
          · rename_i e hte; simp only [Option.some.injEq, Prod.mk.injEq] at he; obtain ⟨rfl, rfl⟩ := he; exact ok_len_gsl h ho hk hx1 ht hte hx2
          · cases he
        · cases he
      · rename_i d _ _ _ hl
        obtain ⟨x, hx1, hx2⟩ : ∃ x, k.args.toList = [x] ∧ s.ev x = d := by
          cases hk' : k.args.toList with
          | nil => rw [hk'] at hl; cases hl
          | cons x r => cases r with
            | nil => rw [hk'] at hl; simp only [List.map_cons, List.map_nil, List.cons.injEq, and_true] at hl; exact ⟨x, rfl, hl⟩
            | cons y r => rw [hk'] at hl; simp at hl
        split at he
        · rename_i v hv
          split at he
          · rename_i r hr; simp only [Option.some.injEq, Prod.mk.injEq] at he; obtain ⟨rfl, rfl⟩ := he; exact ok_len_lit h ho hk hx1 (by rw [hx2]; exact hv) hr
          · cases he
        · cases he
      · cases he
    · rename_i hk
      split at he
      · rename_i vs hv
        split at he
        · rename_i r hr; simp only [Option.some.injEq, Prod.mk.injEq] at he; obtain ⟨rfl, rfl⟩ := he; exact ok_max h ho hk hv hr
        · cases he
      · cases he
    · rename_i hk
      split at he
      · rename_i vs hv
        split at he
        · rename_i r hr; simp only [Option.some.injEq, Prod.mk.injEq] at he; obtain ⟨rfl, rfl⟩ := he; exact ok_min h ho hk hv hr
        · cases he
      · cases he
    · rename_i hk
      split at he
      · rename_i x0 q full ys t t' hl ht
        obtain ⟨x, y, hx1, hx2, hx3⟩ : ∃ x y, k.args.toList = [x, y] ∧ s.ev x = x0 ∧ s.ev y = .row q full ys := by
          cases hk' : k.args.toList with
          | nil => rw [hk'] at hl; cases hl
          | cons x r => cases r with
            | nil => rw [hk'] at hl; simp at hl
            | cons y r => cases r with
              | nil => rw [hk'] at hl; simp only [List.map_cons, List.map_nil, List.cons.injEq, and_true] at hl; exact ⟨x, y, rfl, hl.1, hl.2⟩
              | cons y r => rw [hk'] at hl; simp at hl
        split at he
        · rename_i e hte
          split at he
          · rename_i i hi
            split at he
            · rename_i hc
              simp only [Bool.and_eq_true, beq_iff_eq, Nat.blt_eq] at hc
              obtain ⟨⟨rfl, hz⟩, h0⟩ := hc
              obtain ⟨z, hzz, hzs⟩ : ∃ z, i.zero = some z ∧ z.cells.size = i.size := by
                cases hz' : i.zero with
                | none => rw [hz'] at hz; simp at hz
                | some z => rw [hz'] at hz; exact ⟨z, rfl, by simpa using hz⟩
              split at he
              · rename_i p xs
                split at he
                · simp only [Option.some.injEq, Prod.mk.injEq] at he; obtain ⟨rfl, rfl⟩ := he
                  simp only [need_ok] at hn; exact ok_append_row h ho hk hx1 ht hte hi hzz hzs h0 hx2 hx3 hn
                · simp only [Option.some.injEq, Prod.mk.injEq] at he; obtain ⟨rfl, rfl⟩ := he
                  simp only [need_ok] at hn; exact ok_append_new h ho hk hx1 ht hte hi hzz hzs h0 hx2 hx3 hn
              · rename_i b p sz
                split at he
                · rename_i cs hb
                  split at he
                  · rename_i hc2
                    simp only [Bool.and_eq_true, beq_iff_eq, Nat.ble_eq, Bool.not_eq_true'] at hc2
                    obtain ⟨rfl, hg2, hns⟩ := hc2
                    simp only [Option.some.injEq, Prod.mk.injEq] at he; obtain ⟨rfl, rfl⟩ := he
                    simp only [need_ok] at hn; exact ok_append_grow h ho hk hx1 ht hte hi hzz hzs h0 hx2 hx3 hb hns (by omega) hn.1 hn.2
                  · cases he
                · cases he
              · rename_i b off p cap
                split at he
                · rename_i cs hb
                  simp only [Option.some.injEq, Prod.mk.injEq] at he; obtain ⟨rfl, rfl⟩ := he
                  simp only [need_ok] at hn; exact ok_append_slc h (ro := ro) ho hk hx1 ht hte hi hzz hzs h0 hx2 hx3 hb hn
                · cases he
              · cases he
            · cases he
          · cases he
        · cases he
      · rename_i x0 v0 t t' hl ht
        obtain ⟨x, y, hx1, hx2, hx3⟩ : ∃ x y, k.args.toList = [x, y] ∧ s.ev x = x0 ∧ s.ev y = .lit v0 := by
          cases hk' : k.args.toList with
          | nil => rw [hk'] at hl; cases hl
          | cons x r => cases r with
            | nil => rw [hk'] at hl; simp at hl
            | cons y r => cases r with
              | nil => rw [hk'] at hl; simp only [List.map_cons, List.map_nil, List.cons.injEq, and_true] at hl; exact ⟨x, y, rfl, hl.1, hl.2⟩
              | cons y r => rw [hk'] at hl; simp at hl
        split at he
        · split at he
          · rename_i e hte
            split at he
            · rename_i i hi
              split at he
              · rename_i hc
                simp only [beq_iff_eq] at hc
                subst hc
                simp only [Option.some.injEq, Prod.mk.injEq] at he; obtain ⟨rfl, rfl⟩ := he
                exact ok_append_nil h ho hk hx1 ht hte hi hx2 hx3
              · cases he
            · cases he
          · cases he
        · cases he
      · cases he
    · cases he
  case h_25 => cases he
end Lw

namespace Lw
open Go Go.RowKit

/-- An abstract frame as lists, for the kernel. -/
structure St where
  tmps : List D
  blks : List (Option (List D))
  nst : List Nat
  deriving Inhabited
def St.fs (s : St) : FSt := ⟨fun t => s.tmps.getD t .any, fun b => s.blks.getD b none, fun b => s.nst.contains b⟩

/-- How a piece of code ends. -/
inductive XEnd where
  | normal
  | exit (id : Nat)
  | ret
  deriving DecidableEq, Inhabited

/-- What a run meets and what the prover said: these are compared. -/
inductive Got where
  | call (f : FuncId) (args : List D)
  | d (x : D)
  | p (q : Prop)
  | code (c : Code) (n gb : Nat) (ds : List D) (bs : List (Option (List D)))

def topOf (keep : List Nat) : Nat := keep.foldr (fun b m => if Nat.blt b m then m else b + 1) 0
/-- A frame of which few temporaries and own blocks are known; ns: the own blocks of which cells may point into own blocks. -/
def lay (n : Nat) (l : List (Nat × D)) (bl : List (Nat × List D)) (ns : List Nat := []) : St :=
  ⟨(List.range n).map fun t => ((l.find? fun p => p.1 == t).map (·.2)).getD .any, (List.range (topOf (bl.map (·.1)))).map fun b => (bl.find? fun p => p.1 == b).map (·.2), ns⟩
/-- The fence that asks nothing, of a frame of a round or of none. -/
def Fw (r : Option Nat) : Fence := { Fence.wide with round := r }
theorem calls_in {P : Program} {f : FuncId} {args : Array Value} {w : World} {R : Ending → World → Prop} {r : Option Nat} {n : Nat} (h : Calls P f args w R) : CallsIn (Fw r) n P f args w R := by
  have := (callsIn_wide (n := n)).2 h
  exact this
theorem wp_in {P : Program} {o : Oper} {a : Act} {w : World} {K : Act → World → Prop} {Q : Exit → Act → World → Prop} {r : Option Nat} {n : Nat} (hd : ∀ c, o.op ≠ .defer c) (h : o.wp P a w K Q) : o.wpIn (Fw r) n P a w K Q := by
  refine ⟨fun f _ => trivial, ?_⟩
  have e : (Oper.semAt (Fw r).round a.eval o) = execOp a.eval o := Oper.semAt_eq _ _ _ hd
  rw [e]
  unfold Oper.wp at h
  generalize (execOp a.eval o).run P w = x at h
  have hn : (Fw r).depth.isSome = true → 1 ≤ n := fun h => by simp [Fw, Fence.wide] at h
  cases x with
  | ok y w' =>
    cases y <;> simp only [Oper.upon, Oper.uponIn] at h ⊢ <;> first
      | exact h
      | exact ⟨hn, calls_in h⟩
      | exact ⟨hn, fun c cs _ => by obtain ⟨v, w2, r2, s2⟩ := h c cs; exact ⟨v, w2, r2, stepsIn_wide.2 s2⟩⟩
  | halt y w' => cases y <;> simp only [Oper.upon, Oper.uponIn] at h ⊢ <;> exact h
/-- What is promised of a piece of code: from every frame that reads so it comes to this end and to a frame that reads so. -/
def Abs (P : Program) (Good : World → Prop) (n gb : Nat) (k : Code) (s : St) (e : XEnd) (s' : St) : Prop :=
  ∀ (c : Ctx) (Q : Exit → Act → World → Prop) (a : Act) (w : World), c.P = P → c.Good = Good → c.Good c.w0 → c.gb ≤ gb → Rel c n s.fs a w →
    (∀ a' w', Rel c n s'.fs a' w' → Q (match e with | .normal => .normal | .exit id => .exit id | .ret => .ret) a' w') → k.wpIn (Fw c.rd) 0 P Q a w

/-- What a callee that is run in place does. -/
def Inl (P : Program) (Good : World → Prop) (fn : Func) (mx : Nat) (args : List D) (blks : List (Option (List D))) (ns : List Nat) (d : D) (blks' : List (Option (List D))) (ns' : List Nat) : Prop :=
  ∀ (f : FuncId), P.funcs[f]? = some fn → ∀ (c : Ctx) (w : World) (β : Nat → Nat) (X : Nat → Prop) (vals : List Value), c.P = P → c.Good = Good → c.Good c.w0 → c.gb ≤ mx → c.rd = none → c.dfs = [] →
    RelB c 0 ⟨fun _ => .any, fun b => blks.getD b none, fun b => ns.contains b⟩ ⟨#[], []⟩ w β X → vals.length = args.length → (∀ i (h : i < vals.length) (h' : i < args.length), RepW β w X vals[i] args[i]) →
    (∀ d ∈ args, ∀ b ∈ d.refs, (blks.getD b none).isSome = true) →
    Calls P f vals.toArray w fun e w' => ∃ v β' X', e = .returned v ∧ RelB c 0 ⟨fun _ => .any, fun b => blks'.getD b none, fun b => ns'.contains b⟩ ⟨#[], []⟩ w' β' X' ∧ RepW β' w' X' v d ∧
      ∀ b ∈ d.refs, (blks'.getD b none).isSome = true

/-- A prover that looks up what it needs: contracts by the function and its arguments; other callees are run in place. -/
structure Auto (P : Program) (Good : World → Prop) where
  orc : FuncId → List D → Option D
  ok : ∀ f args r, orc f args = some r → Spec P Good f args r
  ro : FuncId → List Nat
  stop : FuncId → Bool
  orcF : FuncId → List D → Option D
  okF : ∀ f args r, orcF f args = some r → SpecF P Good f args r
  orcI : FuncId → Nat → List D → List (Option (List D)) → Option (D × List (Option (List D)))
  okI : ∀ f fn mx args blks d blks', orcI f mx args blks = some (d, blks') → P.funcs[f]? = some fn → Inl P Good fn mx args blks [] d blks' []
/-- What the prover hands to the run, in the order in which the run meets it: a callee's contract; a value rewritten; a proposition that is owed; a loop's promise; a callee to be run in place; an own block that is written no more. -/
inductive Item (P : Program) (Good : World → Prop) where
  | call {f : FuncId} {args : List D} {r : D} (h : Spec P Good f args r)
  | eq (t : Tmp) {d d' : D} (h : d = d')
  | prop {p : Prop} (h : p)
  | code {n gb : Nat} {k : Code} {l : List (Nat × D)} {bl : List (Nat × List D)} {ns : List Nat} {e : XEnd} {s' : St} (h : Abs P Good n gb k (lay n l bl ns) e s')
  | callN {f : FuncId} {args : List D} {n : Nat} {cs : List D} (h : SpecN P Good f args n cs)
  | callF {f : FuncId} {args : List D} {r : D} (h : SpecF P Good f args r)
  | inl (ro : List Nat) {f : FuncId} {fn : Func} (hf : P.funcs[f]? = some fn)
  | freeze (b : Nat)
  | auto (A : Auto P Good)

/-- What becomes of an operation: how its temporary and the own blocks turn. -/
inductive Rec where
  | val (d : D)
  | new (b : Nat) (cs : List D) (d : D) (nf : Bool)
  | store (b off : Nat) (ds : List D) (d : D) (nf : Bool)
  | grow (b : Nat) (cs : List D) (d : D)
  | own (d : D)
  | inl (blks : List (Option (List D))) (ns : List Nat) (d : D)
def Rec.put : Rec → D
  | .val d => d
  | .new _ _ d _ => d
  | .store _ _ _ d _ => d
  | .grow _ _ d => d
  | .own d => d
  | .inl _ _ d => d
/-- May it stand in a region whose order is open? -/
def Rec.plain : Rec → Bool
  | .val _ => true
  | .new _ _ _ _ => true
  | .store _ _ _ _ _ => true
  | .grow _ _ _ => false
  | .own _ => false
  | .inl _ _ _ => false
/-- Does it lean on how the own blocks lie in the list? -/
def Rec.inner : Rec → Bool
  | .val _ => false
  | .new _ _ _ _ => false
  | .store _ _ _ _ _ => false
  | .grow _ _ _ => false
  | .own _ => true
  | .inl _ _ _ => true
def splice (cs : List D) (off : Nat) (ds : List D) : List D := cs.take off ++ (ds ++ cs.drop (off + ds.length))

variable {P : Program} {Good : World → Prop}

/-- The need is met by what the prover handed, or by reckoning. -/
def meetNeed (nd : Need) (tr : List (Item P Good)) : Option (List (Item P Good) × List (Got × Got)) :=
  match nd with
  | .no => some (tr, [])
  | .want p b _ => match tr with
    | .prop (p := q) _ :: tr' => some (tr', [(.p p, .p q)])
    | _ => if b then some (tr, []) else none
/-- A value may be rewritten. -/
def rewr (dst : Option Tmp) (d : D) (tr : List (Item P Good)) : D × List (Item P Good) × List (Got × Got) :=
  match tr with
  | .eq t (d := x) (d' := y) _ :: tr' => if dst == some t then (y, tr', [(.d d, .d x)]) else (d, tr, [])
  | _ => (d, tr, [])
/-- One cell, the own block behind it read as it lies. -/
def D.rowC (blk : Nat → Option (List D)) (nst : Nat → Bool) : Nat → D → D
  | 0, d => match d.ref with
    | some b => match blk b, nst b with
      | some cs, false => d.thawC b cs
      | _, _ => .any
    | none => d
  | m + 1, d => match d.ref with
    | some b => match blk b with
      | some cs => match nst b with
        | false => d.thawC b cs
        | true => d.thawC b (cs.map (D.rowC blk nst m))
      | none => .any
    | none => d
/-- An argument as the callee reads it. -/
def D.rowOf (blk : Nat → Option (List D)) (nst : Nat → Bool) (d : D) : D :=
  match d with
  | .agg xs => .agg (xs.map (D.rowC blk nst 4))
  | .tup xs => .tup (xs.map (D.rowC blk nst 4))
  | d => (D.rowC blk nst 4 d).relax
def D.flat : D → Bool
  | .lit _ => true
  | _ => false
/-! Data reckoned out, number by number, before one goes on with them. -/
section
universe u
variable {α : Type u}
def frN (n : Nat) (k : Nat → α) : α := match n with
  | 0 => k 0
  | m + 1 => k (Nat.succ m)
theorem frN_eq (n : Nat) (k : Nat → α) : frN n k = k n := by cases n <;> rfl
def frI (z : Int) (k : Int → α) : α := match z with
  | .ofNat n => frN n fun n => k (.ofNat n)
  | .negSucc n => frN n fun n => k (.negSucc n)
theorem frI_eq (z : Int) (k : Int → α) : frI z k = k z := by cases z <;> simp only [frI, frN_eq]
def frB (b : Bool) (k : Bool → α) : α := match b with
  | true => k true
  | false => k false
theorem frB_eq (b : Bool) (k : Bool → α) : frB b k = k b := by cases b <;> rfl
def frV (v : Value) (k : Value → α) : α := match v with
  | .int t z => frI z fun z => k (.int t z)
  | .bool b => frB b fun b => k (.bool b)
  | v => k v
theorem frV_eq (v : Value) (k : Value → α) : frV v k = k v := by
  cases v <;> first | rfl | simp only [frV, frI_eq, frB_eq]
def frL (g : D → (D → α) → α) : List D → (List D → α) → α
  | [], k => k []
  | x :: l, k => g x fun x => frL g l fun l => k (x :: l)
theorem frL_eq {g : D → (D → α) → α} (hg : ∀ d k, g d k = k d) : ∀ (l : List D) (k : List D → α), frL g l k = k l
  | [], _ => rfl
  | x :: l, k => by simp only [frL]; rw [hg, frL_eq hg l]
def frD : Nat → D → (D → α) → α
  | 0, d, k => k d
  | _ + 1, .lit v, k => frV v fun v => k (.lit v)
  | n + 1, .row l f xs, k => frN l fun l => frB f fun f => frL (frD n) xs fun xs => k (.row l f xs)
  | n + 1, .agg xs, k => frL (frD n) xs fun xs => k (.agg xs)
  | n + 1, .tup xs, k => frL (frD n) xs fun xs => k (.tup xs)
  | n + 1, .rptr xs, k => frL (frD n) xs fun xs => k (.rptr xs)
  | _ + 1, .ptr b o, k => frN b fun b => frN o fun o => k (.ptr b o)
  | _ + 1, .slc b o l c, k => frN b fun b => frN o fun o => frN l fun l => frN c fun c => k (.slc b o l c)
  | _ + 1, .gsl b l z, k => frN b fun b => frN l fun l => frN z fun z => k (.gsl b l z)
  | n + 1, .fn f xs ys, k => frN f fun f => frL (frD n) xs fun xs => frL (frD n) ys fun ys => k (.fn f xs ys)
  | _ + 1, d, k => k d
theorem frD_eq : ∀ (n : Nat) (d : D) (k : D → α), frD n d k = k d
  | 0, d, k => rfl
  | n + 1, d, k => by
    cases d <;> simp only [frD]
    · exact frV_eq _ _
    · rw [frN_eq, frB_eq, frL_eq (frD_eq n)]
    · rw [frL_eq (frD_eq n)]
    · rw [frL_eq (frD_eq n)]
    · rw [frL_eq (frD_eq n)]
    · rw [frN_eq, frN_eq]
    · rw [frN_eq, frN_eq, frN_eq, frN_eq]
    · rw [frN_eq, frN_eq, frN_eq]
    · rw [frN_eq, frL_eq (frD_eq n), frL_eq (frD_eq n)]
end
/-! Data that are compared by reckoning. -/
def u8Same : List UInt8 → List UInt8 → Bool
  | [], [] => true
  | a :: l, b :: m => Nat.beq a.toNat b.toNat && u8Same l m
  | _, _ => false
theorem u8Same_ok : ∀ {l m : List UInt8}, u8Same l m = true → l = m
  | [], [], _ => rfl
  | a :: l, b :: m, h => by
    simp only [u8Same, Bool.and_eq_true] at h
    rw [UInt8.toNat_inj.1 (Nat.eq_of_beq_eq_true h.1), u8Same_ok h.2]
def strSame (a b : ByteArray) : Bool := u8Same a.data.toList b.data.toList
theorem strSame_ok {a b : ByteArray} (h : strSame a b = true) : a = b := by
  have := u8Same_ok h
  cases a; cases b
  simp only at this
  rw [Array.toList_inj.1 this]
def valSame : Value → Value → Bool
  | .int k a, .int l b => decide (k = l) && decide (a = b)
  | .bool a, .bool b => decide (a = b)
  | .string a, .string b => strSame a b
  | .nilIface, .nilIface => true
  | .nilFunc, .nilFunc => true
  | .tuple a, .tuple b => decide (a.size = 0) && decide (b.size = 0)
  | .pointer none, .pointer none => true
  | .func (.func f) a b, .func (.func g) c d => decide (f = g) && (decide (a.size = 0 ∧ b.size = 0) && decide (c.size = 0 ∧ d.size = 0))
  | _, _ => false
theorem valSame_ok : ∀ {a b : Value}, valSame a b = true → a = b := by
  intro a b h
  unfold valSame at h
  split at h
  · rw [Bool.and_eq_true, decide_eq_true_eq, decide_eq_true_eq] at h; rw [h.1, h.2]
  · rw [decide_eq_true_eq] at h; rw [h]
  · rw [strSame_ok h]
  · rfl
  · rfl
  · rw [Bool.and_eq_true, decide_eq_true_eq, decide_eq_true_eq] at h
    rw [Array.eq_empty_of_size_eq_zero h.1, Array.eq_empty_of_size_eq_zero h.2]
  · rfl
  · rw [Bool.and_eq_true, Bool.and_eq_true, decide_eq_true_eq, decide_eq_true_eq, decide_eq_true_eq] at h
    obtain ⟨rfl, ⟨h1, h2⟩, h3, h4⟩ := h
    rw [Array.eq_empty_of_size_eq_zero h1, Array.eq_empty_of_size_eq_zero h2, Array.eq_empty_of_size_eq_zero h3, Array.eq_empty_of_size_eq_zero h4]
  · cases h
def allSame (f : D → D → Bool) : List D → List D → Bool
  | [], [] => true
  | a :: l, b :: m => f a b && allSame f l m
  | _, _ => false
theorem allSame_ok {f : D → D → Bool} (hf : ∀ {a b}, f a b = true → a = b) : ∀ {l m : List D}, allSame f l m = true → l = m
  | [], [], _ => rfl
  | a :: l, b :: m, h => by
    simp only [allSame, Bool.and_eq_true] at h
    rw [hf h.1, allSame_ok hf h.2]
def dSame : Nat → D → D → Bool
  | 0, _, _ => false
  | _ + 1, .any, .any => true
  | _ + 1, .lit a, .lit b => valSame a b
  | n + 1, .row l f xs, .row m g ys => decide (l = m) && decide (f = g) && allSame (dSame n) xs ys
  | n + 1, .agg xs, .agg ys => allSame (dSame n) xs ys
  | n + 1, .rptr xs, .rptr ys => allSame (dSame n) xs ys
  | n + 1, .tup xs, .tup ys => allSame (dSame n) xs ys
  | _ + 1, .ptr b o, .ptr b' o' => decide (b = b') && decide (o = o')
  | _ + 1, .slc b o l k, .slc b' o' l' k' => decide (b = b') && decide (o = o') && decide (l = l') && decide (k = k')
  | _ + 1, .gsl b l k, .gsl b' l' k' => decide (b = b') && decide (l = l') && decide (k = k')
  | n + 1, .fn f xs ys, .fn g xs' ys' => decide (f = g) && allSame (dSame n) xs xs' && allSame (dSame n) ys ys'
  | _, _, _ => false
theorem dSame_ok : ∀ (n : Nat) {a b : D}, dSame n a b = true → a = b
  | 0, _, _, h => by simp [dSame] at h
  | n + 1, a, b, h => by
    cases a <;> cases b <;> simp only [dSame, Bool.false_eq_true] at h
    · rfl
    · rw [valSame_ok h]
    · simp only [Bool.and_eq_true, decide_eq_true_eq] at h
      rw [h.1.1, h.1.2, allSame_ok (fun hh => dSame_ok n hh) h.2]
    · rw [allSame_ok (fun hh => dSame_ok n hh) h]
    · rw [allSame_ok (fun hh => dSame_ok n hh) h]
    · rw [allSame_ok (fun hh => dSame_ok n hh) h]
    · simp only [Bool.and_eq_true, decide_eq_true_eq] at h
      rw [h.1, h.2]
    · simp only [Bool.and_eq_true, decide_eq_true_eq] at h
      rw [h.1.1.1, h.1.1.2, h.1.2, h.2]
    · simp only [Bool.and_eq_true, decide_eq_true_eq] at h
      rw [h.1.1, h.1.2, h.2]
    · simp only [Bool.and_eq_true, decide_eq_true_eq] at h
      rw [h.1.1, allSame_ok (fun hh => dSame_ok n hh) h.1.2, allSame_ok (fun hh => dSame_ok n hh) h.2]
def blksSame : List (Option (List D)) → List (Option (List D)) → Bool
  | [], [] => true
  | none :: l, none :: m => blksSame l m
  | some a :: l, some b :: m => allSame (dSame 8) a b && blksSame l m
  | _, _ => false
theorem blksSame_ok : ∀ {l m : List (Option (List D))}, blksSame l m = true → l = m
  | [], [], _ => rfl
  | none :: l, none :: m, h => by rw [blksSame_ok (l := l) (m := m) h]
  | some a :: l, some b :: m, h => by
    simp only [blksSame, Bool.and_eq_true] at h
    rw [allSame_ok (fun hh => dSame_ok 8 hh) h.1, blksSame_ok h.2]
/-- The caller's blocks are as they were, and what came back points into none. -/
def cutOk (blks blks' : List (Option (List D))) (d : D) : Bool := d.refs.isEmpty && blksSame blks (blks'.take blks.length)
theorem cutOk_ok {blks blks' : List (Option (List D))} {d : D} (h : cutOk blks blks' d = true) : d.refs = [] ∧ ∀ b cs, blks.getD b none = some cs → blks'.getD b none = some cs := by
  unfold cutOk at h
  rw [Bool.and_eq_true, List.isEmpty_iff] at h
  refine ⟨h.1, fun b cs hb => ?_⟩
  have e := blksSame_ok h.2
  rw [e] at hb
  simp only [List.getD_eq_getElem?_getD, List.getElem?_take] at hb ⊢
  split at hb
  · exact hb
  · simp at hb
/-- How callees are run in place. -/
abbrev Inline (P : Program) (Good : World → Prop) := Nat → List Nat → Func → List D → List (Option (List D)) → List Nat → List (Item P Good) → Option (D × List (Option (List D)) × List Nat × List (Item P Good) × List (Got × Got))
/-- A callee by what is known of it in place, or run. -/
def inlA {P : Program} {Good : World → Prop} (inl : Inline P Good) (A : Auto P Good) (ro : List Nat) (mx : Nat) (f : FuncId) (fn : Func) (args : List D) (blks : List (Option (List D))) (ns : List Nat) (tr' : List (Item P Good)) : Option (D × List (Option (List D)) × List Nat × List (Item P Good) × List (Got × Got)) :=
  match ns with
  | [] => match A.orcI f mx args blks with
    | some (d, blks') => some (d, blks', [], .auto A :: tr', [])
    | none => inl mx ro fn args blks [] (.auto A :: tr')
  | n :: ns => inl mx ro fn args blks (n :: ns) (.auto A :: tr')
theorem inlA_some {inl : Inline P Good} {A : Auto P Good} {ro : List Nat} {mx : Nat} {f : FuncId} {fn : Func} {args : List D} {blks blks' : List (Option (List D))} {ns ns' : List Nat} {d : D} {tr' tr2 : List (Item P Good)} {eqs : List (Got × Got)}
    (h : inlA inl A ro mx f fn args blks ns tr' = some (d, blks', ns', tr2, eqs)) (hf : P.funcs[f]? = some fn) : Inl P Good fn mx args blks ns d blks' ns' ∨ inl mx ro fn args blks ns (.auto A :: tr') = some (d, blks', ns', tr2, eqs) := by
  unfold inlA at h
  split at h
  · split at h
    · rename_i d1 b1 ho
      simp only [Option.some.injEq, Prod.mk.injEq] at h
      obtain ⟨rfl, rfl, rfl, -, -⟩ := h
      exact .inl (A.okI _ _ _ _ _ _ _ ho hf)
    · exact .inr h
  · exact .inr h
def autoIn (P : Program) {Good : World → Prop} (inl : Inline P Good) (A : Auto P Good) (mx : Nat) (f : FuncId) (args : List D) (blks : List (Option (List D))) (ns : List Nat) (tr' : List (Item P Good)) : Option (Rec × List (Item P Good) × List (Got × Got)) :=
  match P.funcs[f]? with
  | some fn => match inlA inl A (A.ro f) mx f fn args blks ns tr' with
    | some (d, blks', ns', tr'', eqs) => some (match cutOk blks blks' d with | true => .own d | false => .inl blks' ns' d, tr'', eqs)
    | none => none
  | none => none
theorem autoIn_some {inl : Inline P Good} {A : Auto P Good} {mx : Nat} {f : FuncId} {args : List D} {blks : List (Option (List D))} {ns : List Nat} {tr' tr2 : List (Item P Good)} {R : Rec} {eqs : List (Got × Got)}
    (h : autoIn P inl A mx f args blks ns tr' = some (R, tr2, eqs)) : ∃ fn d blks' ns', P.funcs[f]? = some fn ∧ inlA inl A (A.ro f) mx f fn args blks ns tr' = some (d, blks', ns', tr2, eqs) ∧ (R = .inl blks' ns' d ∨ R = .own d ∧ cutOk blks blks' d = true) := by
  unfold autoIn at h
  split at h
  · rename_i fn hf
    split at h
    · rename_i d blks' ns' tr'' eqs' hi
      simp only [Option.some.injEq, Prod.mk.injEq] at h
      obtain ⟨hR, rfl, rfl⟩ := h
      refine ⟨fn, d, blks', ns', hf, hi, ?_⟩
      split at hR
      · exact .inr ⟨hR.symm, by assumption⟩
      · exact .inl hR.symm
    · cases h
  · cases h
/-- What a callee sees of the own blocks: none, or the one that its arguments point into, if no cell of it points into another. -/
def hideOf (blk : Nat → Option (List D)) (args : List D) : Option (Option (Nat × List D)) :=
  match args.flatMap D.refs with
  | [] => some none
  | b :: l => match l.all (fun b' => b' == b), blk b with
    | true, some cs => match anyRef cs with
      | true => none
      | false => some (some (b, cs))
    | _, _ => none
def hideB : Option (Nat × List D) → List (Option (List D))
  | none => []
  | some (b, cs) => List.replicate b none ++ [some cs]
def hideR (o : Option (Nat × List D)) (d : D) (blks' : List (Option (List D))) (ns' : List Nat) : Option D :=
  match o with
  | none => some (d.rowOf (fun b => blks'.getD b none) (fun b => ns'.contains b))
  | some (b, cs) => match blks'.getD b none with
    | some cs' => match d.refs.isEmpty && allSame (dSame 8) cs cs' with
      | true => some d
      | false => none
    | none => none
/-- A callee that is run in place and sees no own block but that one; it leaves it as it is. (999 among its 'ro': not so.) -/
def autoHide (P : Program) {Good : World → Prop} (inl : Inline P Good) (A : Auto P Good) (f : FuncId) (args : List D) (blk : Nat → Option (List D)) (tr' : List (Item P Good)) : Option (Rec × List (Item P Good) × List (Got × Got)) :=
  match A.stop f || (A.ro f).contains 999 with
  | true => none
  | false => match hideOf blk args with
    | some o => match P.funcs[f]? with
      | some fn => match inlA inl A (998 :: A.ro f) (hideB o).length f fn args (hideB o) [] tr' with
        | some (d, blks', ns', tr'', eqs) => match hideR o d blks' ns' with
          | some d' => frD 12 d' fun d' => some (.val d', tr'', eqs)
          | none => none
        | none => none
      | none => none
    | none => none
/-- A callee that is run alone and returns a slice over a new own block. (997 among its 'ro'.) -/
def newR (nb : Nat) (d : D) (blks' : List (Option (List D))) (ns' : List Nat) : Option Rec :=
  match d with
  | .gsl b n size => match blks'.getD b none with
    | some cs => match anyRef cs with
      | true => none
      | false => some (.new nb cs (.gsl nb n size) false)
    | none => none
  | .slc b off len cap => match blks'.getD b none with
    | some cs => match anyRef cs with
      | true => none
      | false => some (.new nb cs (.slc nb off len cap) false)
    | none => none
  | _ => none
def autoHideN (P : Program) {Good : World → Prop} (inl : Inline P Good) (A : Auto P Good) (f : FuncId) (args : List D) (nb : Nat) (tr' : List (Item P Good)) : Option (Rec × List (Item P Good) × List (Got × Got)) :=
  match (A.ro f).contains 997 with
  | false => none
  | true => match P.funcs[f]? with
    | some fn => match inlA inl A (A.ro f) 0 f fn args [] [] tr' with
      | some (d, blks', ns', tr'', eqs) => match newR nb d blks' ns' with
        | some R => some (R, tr'', eqs)
        | none => none
      | none => none
    | none => none
theorem autoHideN_some {inl : Inline P Good} {A : Auto P Good} {f : FuncId} {args : List D} {nb : Nat} {tr' tr2 : List (Item P Good)} {R : Rec} {eqs : List (Got × Got)}
    (h : autoHideN P inl A f args nb tr' = some (R, tr2, eqs)) : ∃ fn d blks' ns', P.funcs[f]? = some fn ∧ inlA inl A (A.ro f) 0 f fn args [] [] tr' = some (d, blks', ns', tr2, eqs) ∧ newR nb d blks' ns' = some R := by
  unfold autoHideN at h
  split at h
  · cases h
  · split at h
    · rename_i fn hf
      split at h
      · rename_i d blks' ns' tr'' eqs' hi
        split at h
        · rename_i R' hR
          simp only [Option.some.injEq, Prod.mk.injEq] at h
          obtain ⟨rfl, rfl, rfl⟩ := h
          exact ⟨fn, d, blks', ns', hf, hi, hR⟩
        · cases h
      · cases h
    · cases h
theorem newR_some {nb : Nat} {d : D} {blks' : List (Option (List D))} {ns' : List Nat} {R : Rec} (h : newR nb d blks' ns' = some R) :
    ∃ b cs d', d.ref = some b ∧ blks'.getD b none = some cs ∧ anyRef cs = false ∧ R = .new nb cs d' false ∧ ((∃ n size, d = .gsl b n size ∧ d' = .gsl nb n size) ∨ ∃ off len cap, d = .slc b off len cap ∧ d' = .slc nb off len cap) := by
  unfold newR at h
  split at h
  · rename_i b n size
    split at h
    · rename_i cs hcs
      split at h
      · cases h
      · rename_i ha
        cases h
        exact ⟨b, cs, _, rfl, hcs, ha, rfl, .inl ⟨n, size, rfl, rfl⟩⟩
    · cases h
  · rename_i b off len cap
    split at h
    · rename_i cs hcs
      split at h
      · cases h
      · rename_i ha
        cases h
        exact ⟨b, cs, _, rfl, hcs, ha, rfl, .inr ⟨off, len, cap, rfl, rfl⟩⟩
    · cases h
  · cases h
theorem autoHide_some {inl : Inline P Good} {A : Auto P Good} {f : FuncId} {args : List D} {blk : Nat → Option (List D)} {tr' tr2 : List (Item P Good)} {R : Rec} {eqs : List (Got × Got)}
    (h : autoHide P inl A f args blk tr' = some (R, tr2, eqs)) : ∃ o fn d blks' ns' d', hideOf blk args = some o ∧ P.funcs[f]? = some fn ∧ inlA inl A (998 :: A.ro f) (hideB o).length f fn args (hideB o) [] tr' = some (d, blks', ns', tr2, eqs) ∧ hideR o d blks' ns' = some d' ∧ R = .val d' := by
  unfold autoHide at h
  split at h
  · cases h
  · split at h
    · rename_i o ho
      split at h
      · rename_i fn hf
        split at h
        · rename_i d blks' ns' tr'' eqs' hi
          split at h
          · rename_i d' hd
            rw [frD_eq] at h
            simp only [Option.some.injEq, Prod.mk.injEq] at h
            obtain ⟨rfl, rfl, rfl⟩ := h
            exact ⟨o, fn, d, blks', ns', d', ho, hf, hi, hd, rfl⟩
          · cases h
        · cases h
      · cases h
    · cases h
theorem autoHide_congr {inl : Inline P Good} {A : Auto P Good} {f : FuncId} {args : List D} {blk blk' : Nat → Option (List D)} {tr' : List (Item P Good)} (hb : ∀ b l, args.flatMap D.refs = b :: l → blk b = blk' b) :
    autoHide P inl A f args blk tr' = autoHide P inl A f args blk' tr' := by
  have e : hideOf blk args = hideOf blk' args := by
    unfold hideOf
    split
    · rfl
    · rename_i b l hl
      rw [hb b l hl]
  unfold autoHide
  rw [e]
/-- A contract by the prover that looks up, or the next one that was handed, at the functions at which it is told to stop. -/
def autoGet (A : Auto P Good) (f : FuncId) (args : List D) (tr : List (Item P Good)) : Option (D × List (Item P Good) × List (Got × Got)) :=
  match A.stop f with
  | true => match tr with
    | .call (f := g) (args := xs) (r := r) _ :: tr' => some (r, tr', [(.call f args, .call g xs)])
    | _ => none
  | false => match A.orc f args with
    | some r => some (r, tr, [])
    | none => none
def meetEff (inl : Inline P Good) (mx : Nat) (blk : Nat → Option (List D)) (nst : Nat → Bool) (blks : List (Option (List D))) (ns : List Nat) (dst : Option Tmp) (E : Eff) (tr : List (Item P Good)) : Option (Rec × List (Item P Good) × List (Got × Got)) :=
  match E with
  | .val d => match rewr dst d tr with
    | (d', tr', eqs) => some (.val d', tr', eqs)
  | .new b cs d nf => some (.new b cs d nf, tr, [])
  | .store b off ds d nf => some (.store b off ds d nf, tr, [])
  | .grow b cs d => some (.grow b cs d, tr, [])
  | .call f args => match tr with
    | .call (f := g) (args := xs) (r := r) _ :: tr' =>
      if args.any (fun d => !d.refs.isEmpty) then (if r.flat then some (.own r, tr', [(.call f (args.map (D.rowOf blk nst)), .call g xs)]) else none)
      else match rewr dst r tr' with
        | (d', tr'', eqs) => some (.val d', tr'', (.call f (args.map D.relax), .call g xs) :: eqs)
    | .callN (f := g) (args := xs) (n := n) (cs := cs) _ :: tr' =>
      if args.any (fun d => !d.refs.isEmpty) then none else some (.new blks.length cs (.slc blks.length 0 n n) false, tr', [(.call f (args.map D.relax), .call g xs)])
    | .callF (f := g) (args := xs) (r := r) _ :: tr' => some (.own r, tr', [(.call f (args.map (D.rowOf blk nst)), .call g xs)])
    | .inl ro (f := g) (fn := fn) _ :: tr' => match inl mx ro fn args blks ns tr' with
      | some (d, blks', ns', tr'', eqs) => some (.inl blks' ns' d, tr'', (.call f [], .call g []) :: eqs)
      | none => none
    | .auto A :: tr' => if args.any (fun d => !d.refs.isEmpty) then (match autoHide P inl A f args blk tr' with
        | some x => some x
        | none => match A.orcF f (args.map (D.rowOf blk nst)) with
          | some r => some (.own r, .auto A :: tr', [])
          | none => match autoGet A f (args.map (D.rowOf blk nst)) tr' with
            | some (r, tr'', eqs) => if r.flat then some (.own r, .auto A :: tr'', eqs) else none
            | none => autoIn P inl A mx f args blks ns tr')
      else (match autoGet A f (args.map D.relax) tr' with
        | some (r, tr'', eqs) => some (.val r, .auto A :: tr'', eqs)
        | none => match autoHideN P inl A f args blks.length tr' with
          | some x => some x
          | none => match autoHide P inl A f args blk tr' with
            | some x => some x
            | none => autoIn P inl A mx f args blks ns tr')
    | _ => none
universe u
def frBs {α : Type u} : List (Option (List D)) → (List (Option (List D)) → α) → α
  | [], k => k []
  | none :: l, k => frBs l fun l => k (none :: l)
  | some cs :: l, k => frL (frD 12) cs fun cs => frBs l fun l => k (some cs :: l)
theorem frBs_eq {α : Type u} : ∀ (l : List (Option (List D))) (k : List (Option (List D)) → α), frBs l k = k l
  | [], _ => rfl
  | none :: l, k => by simp only [frBs]; rw [frBs_eq l]
  | some cs :: l, k => by simp only [frBs]; rw [frL_eq (frD_eq 12), frBs_eq l]
def frR {α : Type u} (R : Rec) (k : Rec → α) : α := match R with
  | .val d => frD 12 d fun d => k (.val d)
  | .new b cs d nf => frN b fun b => frL (frD 12) cs fun cs => frD 12 d fun d => frB nf fun nf => k (.new b cs d nf)
  | .store b off ds d nf => frN b fun b => frN off fun off => frL (frD 12) ds fun ds => frD 12 d fun d => frB nf fun nf => k (.store b off ds d nf)
  | .grow b cs d => frN b fun b => frL (frD 12) cs fun cs => frD 12 d fun d => k (.grow b cs d)
  | .own d => frD 12 d fun d => k (.own d)
  | .inl blks ns d => frBs blks fun blks => frD 12 d fun d => k (.inl blks ns d)
theorem frR_eq {α : Type u} (R : Rec) (k : Rec → α) : frR R k = k R := by
  cases R <;> simp only [frR, frD_eq, frN_eq, frB_eq, frBs_eq, frL_eq (frD_eq 12)]
/-- The same where contracts are looked up: all is reckoned out at once. -/
def meetEffA (inl : Inline P Good) (mx : Nat) (blk : Nat → Option (List D)) (nst : Nat → Bool) (blks : List (Option (List D))) (ns : List Nat) (dst : Option Tmp) (E : Eff) (tr : List (Item P Good)) : Option (Rec × List (Item P Good) × List (Got × Got)) :=
  match tr with
  | .auto _ :: _ => match meetEff inl mx blk nst blks ns dst E tr with
    | some (R, tr', eqs) => frR R fun R => some (R, tr', eqs)
    | none => none
  | tr => meetEff inl mx blk nst blks ns dst E tr
theorem meetEffA_eq {inl : Inline P Good} {mx : Nat} {blk : Nat → Option (List D)} {nst : Nat → Bool} {blks : List (Option (List D))} {ns : List Nat} {dst : Option Tmp} {E : Eff} {tr : List (Item P Good)} : meetEffA inl mx blk nst blks ns dst E tr = meetEff inl mx blk nst blks ns dst E tr := by
  unfold meetEffA
  split
  · split
    · rename_i R tr' eqs h
      rw [frR_eq, h]
    · rename_i h; rw [h]
  · rfl
/-- Does the guard let the operation by? -/
def guardSays (ops : Array Oper) (o : Oper) (tmp : Nat → D) : Option Bool :=
  match o.guard with
  | none => some true
  | some (j, want) => match (ops[j]?).bind (·.dst) with
    | some t => match tmp t with
      | .lit (.bool b) => some (b == want)
      | .lit (.tuple _) => some false
      | _ => none
    | none => none
/-- A bound above the own blocks that the temporaries point into. -/
def mxD (b m : Nat) : Nat := match Nat.blt b m with
  | true => m
  | false => b + 1
def mxOf (gb : Nat) : List D → Nat
  | [] => gb
  | d :: l => d.refs.foldr mxD (mxOf gb l)
theorem mxD_ok (b m : Nat) : b < mxD b m ∧ m ≤ mxD b m := by
  unfold mxD
  split
  · rename_i h; rw [Nat.blt_eq] at h; exact ⟨h, Nat.le_refl _⟩
  · rename_i h; have : ¬ b < m := fun h' => by rw [← Nat.blt_eq] at h'; rw [h'] at h; cases h
    omega
theorem mxR_ok : ∀ (l : List Nat) (m : Nat), m ≤ l.foldr mxD m ∧ ∀ b ∈ l, b < l.foldr mxD m
  | [], m => ⟨Nat.le_refl _, fun b hb => by cases hb⟩
  | x :: l, m => by
    obtain ⟨h1, h2⟩ := mxR_ok l m
    obtain ⟨h3, h4⟩ := mxD_ok x (l.foldr mxD m)
    refine ⟨Nat.le_trans h1 h4, fun b hb => ?_⟩
    rcases List.mem_cons.1 hb with rfl | hb
    · exact h3
    · exact Nat.lt_of_lt_of_le (h2 b hb) h4
theorem mxOf_gb (gb : Nat) : ∀ l : List D, gb ≤ mxOf gb l
  | [] => Nat.le_refl _
  | d :: l => Nat.le_trans (mxOf_gb gb l) (mxR_ok d.refs (mxOf gb l)).1
theorem mxOf_mem (gb : Nat) : ∀ (l : List D) (d : D) (b : Nat), d ∈ l → b ∈ d.refs → b < mxOf gb l
  | [], _, _, h, _ => by cases h
  | x :: l, d, b, h, hb => by
    have h1 := mxR_ok x.refs (mxOf gb l)
    rcases List.mem_cons.1 h with rfl | h
    · exact h1.2 b hb
    · exact Nat.lt_of_lt_of_le (mxOf_mem gb l d b h hb) h1.1
theorem mxOf_tmp (gb : Nat) (s : St) (t b : Nat) (hb : b ∈ (s.fs.tmp t).refs) : b < mxOf gb s.tmps := by
  have e : s.fs.tmp t = s.tmps.getD t .any := rfl
  rw [e] at hb
  by_cases ht : t < s.tmps.length
  · rw [List.getD_eq_getElem?_getD, List.getElem?_eq_getElem ht] at hb
    exact mxOf_mem gb s.tmps _ b (List.getElem_mem ht) hb
  · rw [List.getD_eq_getElem?_getD, List.getElem?_eq_none (by omega)] at hb
    simp [D.refs] at hb
/-- Of an open region in which calls leave the blocks: all of them. -/
def mxA (dr : Bool) (gb : Nat) (s : St) : Nat := match dr with
  | true => s.blks.length
  | false => mxOf gb s.tmps
theorem mxA_ok (dr : Bool) {g gb : Nat} (s : St) (hgb : g ≤ gb) : (g ≤ mxA dr gb s ∧ ∀ t b, b ∈ (s.fs.tmp t).refs → b < mxA dr gb s) ∨ mxA dr gb s = s.blks.length := by
  cases dr with
  | true => exact .inr rfl
  | false => exact .inl ⟨Nat.le_trans hgb (mxOf_gb gb s.tmps), mxOf_tmp gb s⟩
def opRec (P : Program) {Good : World → Prop} (inl : Inline P Good) (ops : Array Oper) (o : Oper) (ro : List Nat) (gb mx : Nat) (s : FSt) (blks : List (Option (List D))) (ns : List Nat) (tr : List (Item P Good)) : Option (Rec × List (Item P Good) × List (Got × Got)) :=
  match guardSays ops o s.tmp with
  | some true => match eff P o s.ev s.blk s.nst blks.length (match o.dst with | some t => ro.contains t | none => false) gb (match o.dst with | some t => ro.contains (t + 1000) | none => false) with
    | some (E, nd) => match meetNeed nd tr with
      | some (tr1, eqs1) => match meetEffA inl mx s.blk s.nst blks ns o.dst E tr1 with
        | some (R, tr2, eqs2) => some (R, tr2, eqs1 ++ eqs2)
        | none => none
      | none => none
    | none => none
  | some false => some (.val (.lit undef), tr, [])
  | none => none
theorem opRec_eq {inl : Inline P Good} {ops : Array Oper} {o : Oper} {ro : List Nat} {gb mx : Nat} {s : FSt} {blks : List (Option (List D))} {ns : List Nat} {tr : List (Item P Good)} : opRec P inl ops o ro gb mx s blks ns tr =
  (match guardSays ops o s.tmp with
  | some true => match eff P o s.ev s.blk s.nst blks.length (match o.dst with | some t => ro.contains t | none => false) gb (match o.dst with | some t => ro.contains (t + 1000) | none => false) with
    | some (E, nd) => match meetNeed nd tr with
      | some (tr1, eqs1) => match meetEff inl mx s.blk s.nst blks ns o.dst E tr1 with
        | some (R, tr2, eqs2) => some (R, tr2, eqs1 ++ eqs2)
        | none => none
      | none => none
    | none => none
  | some false => some (.val (.lit undef), tr, [])
  | none => none) := by
  unfold opRec
  simp only [meetEffA_eq]

/-- The frame behind an operation. -/
def FSt.app (s : FSt) (n : Nat) (dst : Option Tmp) (R : Rec) : FSt :=
  match R with
  | .val d => s.put n dst d
  | .new b cs d nf => (s.setBlk b (some cs) nf).put n dst d
  | .store b off ds d nf => (s.setBlk b ((s.blk b).map fun cs => splice cs off ds) nf).put n dst d
  | .grow b cs d => ((s.clear b).setBlk b (some cs) false).put n dst d
  | .own d => s.put n dst d
  | .inl blks ns d => (⟨s.tmp, fun b => blks.getD b none, fun b => ns.contains b⟩ : FSt).put n dst d

/-- All that was compared agrees. -/
def Agree (eqs : List (Got × Got)) : Prop := ∀ e ∈ eqs, e.1 = e.2
theorem autoGet_ok {A : Auto P Good} {f : FuncId} {args : List D} {tr tr' : List (Item P Good)} {r : D} {eqs : List (Got × Got)} (h : autoGet A f args tr = some (r, tr', eqs)) (he : Agree eqs) : Spec P Good f args r := by
  unfold autoGet at h
  split at h
  · split at h
    · rename_i g xs r' hspec tr2
      simp only [Option.some.injEq, Prod.mk.injEq] at h
      obtain ⟨rfl, rfl, rfl⟩ := h
      have h1 := he _ (List.mem_cons_self ..)
      simp only [Got.call.injEq] at h1
      obtain ⟨rfl, rfl⟩ := h1
      exact hspec
    · cases h
  · split at h
    · rename_i r' hr
      simp only [Option.some.injEq, Prod.mk.injEq] at h
      obtain ⟨rfl, rfl, rfl⟩ := h
      exact A.ok _ _ _ hr
    · cases h
theorem Agree.append {l l' : List (Got × Got)} (h : Agree (l ++ l')) : Agree l ∧ Agree l' :=
  ⟨fun e he => h e (List.mem_append_left _ he), fun e he => h e (List.mem_append_right _ he)⟩
def InlOk (P : Program) (Good : World → Prop) (inl : Inline P Good) : Prop :=
  ∀ mx ro fn args blks ns tr d blks' ns' tr' eqs, inl mx ro fn args blks ns tr = some (d, blks', ns', tr', eqs) → Agree eqs → Inl P Good fn mx args blks ns d blks' ns'

theorem meetNeed_ok {nd : Need} {tr tr' : List (Item P Good)} {eqs : List (Got × Got)} (h : meetNeed nd tr = some (tr', eqs)) (he : Agree eqs) : nd.ok := by
  cases nd with
  | no => trivial
  | want p b hb =>
    simp only [meetNeed] at h
    split at h
    · rename_i q hq _
      simp only [Option.some.injEq, Prod.mk.injEq] at h
      obtain ⟨rfl, rfl⟩ := h
      have := he _ (List.mem_cons_self ..)
      simp only [Got.p.injEq] at this
      show p
      rw [this]; exact hq
    · split at h
      · rename_i hbt; exact hb hbt
      · cases h
theorem rewr_ok {dst : Option Tmp} {d d' : D} {tr tr' : List (Item P Good)} {eqs : List (Got × Got)} (h : rewr dst d tr = (d', tr', eqs)) (he : Agree eqs) : d' = d := by
  unfold rewr at h
  split at h
  · rename_i t x y hxy _
    split at h
    · simp only [Prod.mk.injEq] at h
      obtain ⟨rfl, rfl, rfl⟩ := h
      have := he _ (List.mem_cons_self ..)
      simp only [Got.d.injEq] at this
      rw [this]; exact hxy.symm
    · simp only [Prod.mk.injEq] at h; exact h.1.symm
  · simp only [Prod.mk.injEq] at h; exact h.1.symm

theorem thaw_own {d : D} {b : Nat} {cs : List D} (h : d.ref = some b) : (d.thawC b cs).ref = none := by
  cases d <;> simp only [D.ref, Option.some.injEq, reduceCtorEq] at h <;> subst h <;> simp [D.thawC, D.ref]
theorem flat_pure {c : Ctx} {n : Nat} {s : FSt} {a : Act} {w : World} {β : Nat → Nat} {X : Nat → Prop} (h : RelB c n s a w β X) {b : Nat} {cs : List D} (hb : s.blk b = some cs) (hn : s.nst b = false) : ∀ d ∈ cs, d.ref = none := fun d hd => by
  cases hr : d.ref with
  | none => rfl
  | some b' => have := (h.ndc b cs hb d hd b' hr).1; rw [hn] at this; cases this
theorem rowC_rep {c : Ctx} {n : Nat} {s : FSt} {a : Act} {w : World} {β : Nat → Nat} {X : Nat → Prop} (h : RelB c n s a w β X) {F : Nat → Prop}
    (hF : ∀ k, F k → X k) (hall : ∀ b cs, s.blk b = some cs → ∀ k, F k → k ≠ β b) : ∀ (m : Nat) (v : Value) (d : D), RepV β w X v d → RepP w F v (D.rowC s.blk s.nst m d)
  | 0, v, d, hv => by
    unfold D.rowC
    split
    · rename_i b hb
      split
      · rename_i cs hcs hns
        obtain ⟨_, _, us, e, h3, _, h5⟩ := h.blk b cs hcs
        exact ((thaw_rep h3 (h5.pure (flat_pure h hcs hns)) hv).pure (thaw_own hb)).mono fun a u hu hx => ⟨hu, fun hf => hx ⟨hF _ hf, hall b cs hcs _ hf⟩⟩
      · exact .any _
    · rename_i hb
      exact (hv.pure hb).mono fun a u hu hx => ⟨hu, fun hf => hx (hF _ hf)⟩
  | m + 1, v, d, hv => by
    unfold D.rowC
    split
    · rename_i b hb
      split
      · rename_i cs hcs
        obtain ⟨_, _, us, e, h3, _, h5⟩ := h.blk b cs hcs
        split
        · rename_i hns
          exact ((thaw_rep h3 (h5.pure (flat_pure h hcs hns)) hv).pure (thaw_own hb)).mono fun a u hu hx => ⟨hu, fun hf => hx ⟨hF _ hf, hall b cs hcs _ hf⟩⟩
        · have hr : Reps w F (us.toList.take (cs.map (D.rowC s.blk s.nst m)).length) (cs.map (D.rowC s.blk s.nst m)) := by
            rw [List.length_map]
            exact h5.map fun u x _ hq => rowC_rep h hF hall m u x hq
          have hv' : RepV β w F v d := hv.mono (fun a u hu hx => ⟨hu, fun hf => hx (hF _ hf)⟩) (fun _ _ e => e)
          exact ((thaw_rep h3 hr hv').pure (thaw_own hb)).mono fun a u hu hx => ⟨hu, fun hf => hx ⟨hf, hall b cs hcs _ hf⟩⟩
      · exact .any _
    · rename_i hb
      exact (hv.pure hb).mono fun a u hu hx => ⟨hu, fun hf => hx (hF _ hf)⟩
theorem rowOf_rep {c : Ctx} {n : Nat} {s : FSt} {a : Act} {w : World} {β : Nat → Nat} {X : Nat → Prop} (h : RelB c n s a w β X) {F : Nat → Prop} {v : Value} {d : D} (hv : RepW β w X v d)
    (hF : ∀ k, F k → X k) (hall : ∀ b cs, s.blk b = some cs → ∀ k, F k → k ≠ β b) : RepP w F v (d.rowOf s.blk s.nst) := by
  have many : ∀ {us : List Value} {xs : List D}, LQ (RepV β w X) us xs → Reps w F us (xs.map (D.rowC s.blk s.nst 4)) := fun hl =>
    hl.map fun u x hm hq => rowC_rep h hF hall 4 u x hq
  cases hv with
  | c hv =>
    by_cases h1 : ∃ xs, d = .agg xs
    · obtain ⟨xs, rfl⟩ := h1
      cases hv with
      | p hp => cases hp with
        | agg us _ hl hr =>
          have := many (us := us) (xs := xs) ⟨hl, fun i a b => .p (hr i a b)⟩
          exact .agg us _ this.1 this.2
    · by_cases h2 : ∃ xs, d = .tup xs
      · obtain ⟨xs, rfl⟩ := h2
        cases hv with
        | p hp => cases hp with
          | tup us _ hl hr =>
            have := many (us := us) (xs := xs) ⟨hl, fun i a b => .p (hr i a b)⟩
            exact .tup us _ this.1 this.2
      · have e : d.rowOf s.blk s.nst = (D.rowC s.blk s.nst 4 d).relax := by
          cases d <;> first | rfl | exact absurd ⟨_, rfl⟩ h1 | exact absurd ⟨_, rfl⟩ h2
        rw [e]
        exact relax_rep (rowC_rep h hF hall 4 _ _ hv)
  | agg us xs hl => have := many hl; exact .agg us _ this.1 this.2
  | tup us xs hl => have := many hl; exact .tup us _ this.1 this.2

/-! ### A callee that sees one own block, or none -/
def Sizes (w w' : World) : Prop := ∀ k e m, w.shape? k = some (e, m) → ∃ e', w'.shape? k = some (e', m)
theorem RepV.mono2 {β : Nat → Nat} {w w' : World} {X X' : Nat → Prop} (h : ∀ a u, w.cell? a = some u → ¬ X a.block → w'.cell? a = some u ∧ ¬ X' a.block) (hsh : Sizes w w')
    {v : Value} {d : D} (hr : RepV β w X v d) : RepV β w' X' v d := by
  cases hr with
  | p hp => exact .p (hp.mono h)
  | ptr b off => exact .ptr b off
  | slc b off len cap h1 h2 => exact .slc b off len cap h1 h2
  | gsl b n size cap e h1 h2 h3 => obtain ⟨e', h4⟩ := hsh _ _ _ h3; exact .gsl b n size cap e' h1 h2 h4
theorem RepW.mono2 {β : Nat → Nat} {w w' : World} {X X' : Nat → Prop} (h : ∀ a u, w.cell? a = some u → ¬ X a.block → w'.cell? a = some u ∧ ¬ X' a.block) (hsh : Sizes w w')
    {v : Value} {d : D} (hr : RepW β w X v d) : RepW β w' X' v d := by
  cases hr with
  | c hp => exact .c (hp.mono2 h hsh)
  | agg us xs hl => exact .agg us xs (hl.mono fun u x _ hq => hq.mono2 h hsh)
  | tup us xs hl => exact .tup us xs (hl.mono fun u x _ hq => hq.mono2 h hsh)
theorem gsl_back {β : Nat → Nat} {w : World} {X : Nat → Prop} {a : Addr} {n cap b m size : Nat} (h : RepW β w X (.slice (some a) n cap) (.gsl b m size)) : a = ⟨β b, 0, none⟩ ∧ ∃ e, w.shape? (β b) = some (e, cap * size) := by
  cases h with
  | c h => cases h with
    | p hp => cases hp
    | gsl _ _ _ _ e _ _ h3 => exact ⟨rfl, e, h3⟩
theorem hideB_get {o : Option (Nat × List D)} {b : Nat} {cs : List D} : (hideB o).getD b none = some cs ↔ o = some (b, cs) := by
  cases o with
  | none => simp [hideB]
  | some p =>
    obtain ⟨b0, c0⟩ := p
    simp only [hideB, List.getD_eq_getElem?_getD, Option.some.injEq, Prod.mk.injEq]
    rcases Nat.lt_trichotomy b b0 with h | h | h
    · rw [List.getElem?_append_left (by simpa using h), List.getElem?_replicate, if_pos h]
      simp; omega
    · subst h
      rw [List.getElem?_append_right (by simp)]
      simp
    · rw [List.getElem?_append_right (by simp; omega), List.getElem?_eq_none (by simp; omega)]
      simp; omega
theorem hideB_len {o : Option (Nat × List D)} {b : Nat} {cs : List D} (h : o = some (b, cs)) : b < (hideB o).length := by subst h; simp [hideB]
theorem hideOf_ok {blk : Nat → Option (List D)} {args : List D} {o : Option (Nat × List D)} (h : hideOf blk args = some o) :
    (∀ b cs, o = some (b, cs) → blk b = some cs ∧ anyRef cs = false) ∧ (∀ d ∈ args, ∀ b ∈ d.refs, ∃ cs, o = some (b, cs)) := by
  unfold hideOf at h
  split at h
  · rename_i hn
    cases h
    refine ⟨fun b cs h => (by cases h), fun d hd b hb => ?_⟩
    have : b ∈ args.flatMap D.refs := List.mem_flatMap.2 ⟨d, hd, hb⟩
    rw [hn] at this; cases this
  · rename_i b l hl
    split at h
    · rename_i cs hall hb
      split at h
      · cases h
      · rename_i hr
        cases h
        refine ⟨fun b' cs' h' => ?_, fun d hd b' hb' => ?_⟩
        · simp only [Option.some.injEq, Prod.mk.injEq] at h'
          obtain ⟨rfl, rfl⟩ := h'
          exact ⟨hb, hr⟩
        · have hm : b' ∈ args.flatMap D.refs := List.mem_flatMap.2 ⟨d, hd, hb'⟩
          rw [hl] at hm
          rcases List.mem_cons.1 hm with e | hm
          · exact ⟨cs, by rw [e]⟩
          · have := List.all_eq_true.1 hall b' hm
            rw [beq_iff_eq] at this
            exact ⟨cs, by rw [this]⟩
    · cases h
def seenAt (β : Nat → Nat) : Option (Nat × List D) → Nat → Bool
  | some (b, _), k => k == β b
  | none, _ => false
def pinOf (β : Nat → Nat) (w : World) : Option (Nat × List D) → List (Value × D)
  | some (b, _) => match w.shape? (β b) with
    | some (_, m) => [(.slice (some ⟨β b, 0, none⟩) 0 1, .gsl b 0 m)]
    | none => []
  | none => []
theorem hide_call {c : Ctx} {n : Nat} {s : FSt} {a : Act} {w : World} {β : Nat → Nat} {X : Nat → Prop} (h : RelB c n s a w β X) (h0 : c.Good c.w0) {f : FuncId} {fn : Func} (hf : c.P.funcs[f]? = some fn) {args : List D} {o : Option (Nat × List D)}
    (ho : ∀ b cs, o = some (b, cs) → s.blk b = some cs ∧ anyRef cs = false) (hargs : ∀ d ∈ args, ∀ b ∈ d.refs, ∃ cs, o = some (b, cs))
    {d d' : D} {blks' : List (Option (List D))} {ns' : List Nat} (hin : Inl c.P c.Good fn (hideB o).length args (hideB o) [] d blks' ns') (hd : hideR o d blks' ns' = some d')
    {vals : List Value} (hvl : vals.length = args.length) (hreps : ∀ i (h : i < vals.length) (h' : i < args.length), RepW β w X vals[i] args[i]) :
    Calls c.P f vals.toArray w fun e w' => ∃ v, e = .returned v ∧ RelB c n s a w' β X ∧ RepP w' X v d' := by
  -- the place of the block that is seen
  have hsome : ∀ b cs, o = some (b, cs) → ∃ us e, w.heap[β b]? = some (.cells us e (0, 0)) ∧ X (β b) := fun b cs e => by
    obtain ⟨_, q2, us, e, q3, _⟩ := h.blk b cs (ho b cs e).1
    exact ⟨us, e, q3, q2⟩
  have seen_of : ∀ k, seenAt β o k = true → ∃ b cs, o = some (b, cs) ∧ k = β b := fun k hk => by
    cases hq : o with
    | none => rw [hq] at hk; cases hk
    | some q => rw [hq] at hk; exact ⟨q.1, q.2, rfl, by simpa [seenAt] using hk⟩
  have seen_at : ∀ b cs, o = some (b, cs) → seenAt β o (β b) = true := fun b cs e => by rw [e]; simp [seenAt]
  have pin_of : ∀ b cs, o = some (b, cs) → ∃ e m, w.shape? (β b) = some (e, m) ∧ pinOf β w o = [(.slice (some ⟨β b, 0, none⟩) 0 1, .gsl b 0 m)] := fun b cs e => by
    obtain ⟨us, ty, q1, _⟩ := hsome b cs e
    have q2 := shape_of_cells q1
    refine ⟨ty, us.size, q2, ?_⟩
    rw [e]; simp only [pinOf, q2]
  have pin_nil : o = none → pinOf β w o = [] := fun e => by rw [e]; rfl
  have seen_none : o = none → ∀ k, seenAt β o k = false := fun e k => by rw [e]; rfl
  generalize seenAt β o = seen at seen_of seen_at seen_none
  generalize pinOf β w o = pin at pin_of pin_nil
  let c' : Ctx := { c with gh := pin, gb := (hideB o).length, rd := none, dfs := [], ns := w.heap.size, kp := fun k => if seen k then none else w.heap[k]?, kx := fun k => X k ∧ seen k = false }
  have hpure : ∀ b cs, o = some (b, cs) → ∀ x ∈ cs, x.ref = none := fun b cs e => anyRef_no (ho b cs e).2
  have hstart : RelB c' 0 ⟨fun _ => .any, fun b => (hideB o).getD b none, fun b => ([] : List Nat).contains b⟩ ⟨#[], []⟩ w β X := by
    refine ⟨rfl, rfl, fun t => .c (.p (.any _)), fun t b hb => by simp [D.refs] at hb, fun b cs hb => ?_, fun b cs hb x hx b' hb' => ?_, fun b b' hb hb' _ => ?_, h.F, h.Flt, h.Xlt, ⟨h.below.bel, h.below.nc, Nat.le_refl _⟩, fun p hp => ?_, fun p hp b hb => ?_, ⟨fun k q hk => ?_, fun k hk => hk.1, fun k hk => h.Xlt k hk.1, fun k hk b hb => ?_⟩⟩
    · exact h.blk b cs (ho b cs (hideB_get.1 hb)).1
    · rw [hpure b cs (hideB_get.1 hb) x hx] at hb'; cases hb'
    · obtain ⟨c1, e1⟩ := Option.isSome_iff_exists.1 hb
      obtain ⟨c2, e2⟩ := Option.isSome_iff_exists.1 hb'
      have q1 := hideB_get.1 e1
      have q2 := hideB_get.1 e2
      rw [q1] at q2
      simp only [Option.some.injEq, Prod.mk.injEq] at q2
      exact q2.1
    · cases hq : o with
      | none => have := pin_nil hq; rw [show c'.gh = pin from rfl, this] at hp; cases hp
      | some q =>
        obtain ⟨b, cs⟩ := q
        obtain ⟨e, m, q1, q2⟩ := pin_of b cs hq
        rw [show c'.gh = pin from rfl, q2, List.mem_singleton] at hp
        subst hp
        exact .c (.gsl b 0 m 1 e (by omega) (by decide) (by rw [Nat.one_mul]; exact q1))
    · cases hq : o with
      | none => have := pin_nil hq; rw [show c'.gh = pin from rfl, this] at hp; cases hp
      | some q =>
        obtain ⟨b1, cs⟩ := q
        obtain ⟨e, m, q1, q2⟩ := pin_of b1 cs hq
        rw [show c'.gh = pin from rfl, q2, List.mem_singleton] at hp
        subst hp
        simp only [D.refs, List.mem_singleton] at hb
        subst hb
        exact ⟨hideB_len hq, by show ((hideB (some (b, cs))).getD b none).isSome = true; rw [hideB_get.2 rfl]; rfl⟩
    · have hk' : (if seen k then none else w.heap[k]?) = some q := hk
      split at hk'
      · cases hk'
      · exact hk'
    · obtain ⟨cs, e1⟩ := Option.isSome_iff_exists.1 hb
      have e2 := seen_at b cs (hideB_get.1 e1)
      intro e3
      rw [e3] at e2
      rcases hk with hk | hk
      · have hk' : (if seen k then none else w.heap[k]?).isSome = true := hk
        rw [if_pos e2] at hk'; cases hk'
      · rw [hk.2] at e2; cases e2
  refine (hin f hf c' w β X vals rfl rfl h0 (Nat.le_refl _) rfl rfl hstart hvl hreps (fun x hx b hb => by
    obtain ⟨cs, e⟩ := hargs x hx b hb
    rw [hideB_get.2 e]; rfl)).mono fun e w' hend => ?_
  obtain ⟨v, β', X', rfl, hrel, hv, hdl⟩ := hend
  -- what stays
  have objs : ∀ k q, seen k = false → w.heap[k]? = some q → w'.heap[k]? = some q := fun k q hk hq => hrel.kp.obj k q (by show (if seen k then none else w.heap[k]?) = some q; rw [hk]; exact hq)
  have hsame : ∀ b cs, o = some (b, cs) → blks'.getD b none = some cs ∧ d.refs = [] ∧ d' = d := fun b cs e => by
    subst e
    simp only [hideR] at hd
    split at hd
    · rename_i cs' hcs'
      split at hd
      · rename_i hc
        rw [Bool.and_eq_true, List.isEmpty_iff] at hc
        have := allSame_ok (fun hh => dSame_ok 8 hh) hc.2
        subst this
        exact ⟨hcs', hc.1, (Option.some.inj hd).symm⟩
      · cases hd
    · cases hd
  have hpin : ∀ b cs, o = some (b, cs) → β' b = β b ∧ ∃ e e' m, w.shape? (β b) = some (e, m) ∧ w'.shape? (β b) = some (e', m) := fun b cs e => by
    obtain ⟨ty, m, q1, q2⟩ := pin_of b cs e
    have := hrel.gh _ (by rw [show c'.gh = pin from rfl, q2]; exact List.mem_singleton.2 rfl)
    obtain ⟨r1, ty', r2⟩ := gsl_back this
    have r3 : β b = β' b := by injection r1
    exact ⟨r3.symm, ty, ty', m, q1, by rw [r3]; rw [Nat.one_mul] at r2; exact r2⟩
  have hXX : ∀ k, X k → X' k := fun k hk => by
    cases hs : seen k with
    | true =>
      obtain ⟨b, cs, e, rfl⟩ := seen_of k hs
      have := (hrel.blk b cs (hsame b cs e).1).2.1
      rw [(hpin b cs e).1] at this; exact this
    | false => exact hrel.kp.x k ⟨hk, hs⟩
  have hcells : ∀ a u, w.cell? a = some u → ¬ X a.block → w'.cell? a = some u ∧ ¬ X a.block := fun a u ha hx => by
    refine ⟨?_, hx⟩
    have hns : seen a.block = false := by
      cases hs : seen a.block with
      | false => rfl
      | true =>
        obtain ⟨b, cs, e, e2⟩ := seen_of _ hs
        obtain ⟨_, _, _, q⟩ := hsome b cs e
        rw [← e2] at q; exact absurd q hx
    have hlt := cell_lt ha
    have e1 : w'.heap[a.block]? = w.heap[a.block]? := by
      rw [objs a.block _ hns (Array.getElem?_eq_getElem hlt), Array.getElem?_eq_getElem hlt]
    rw [World.cell?_of_block e1]; exact ha
  have hsizes : Sizes w w' := fun k e m hk => by
    cases hs : seen k with
    | true =>
      obtain ⟨b, cs, e2, rfl⟩ := seen_of k hs
      obtain ⟨_, ty, ty', m', q1, q2⟩ := hpin b cs e2
      rw [q1] at hk
      simp only [Option.some.injEq, Prod.mk.injEq] at hk
      exact ⟨ty', by rw [← hk.2]; exact q2⟩
    | false =>
      obtain ⟨us, fr, q1, q2⟩ := cells_of_shape hk
      exact ⟨e, by rw [← q2]; exact shape_of_cells (objs k _ hs q1)⟩
  have hback : RelB c n s a w' β X := by
    refine ⟨h.defers, h.size, fun t => (h.tmp t).mono2 hcells hsizes, h.nd, fun b cs hb => ?_, h.ndc, h.inj, h.F, h.Flt, fun k hk => Nat.lt_of_lt_of_le (h.Xlt k hk) hrel.below.sz, ⟨hrel.below.bel, fun k q hk hq => ?_, Nat.le_trans h.below.sz hrel.below.sz⟩, fun p hp => (h.gh p hp).mono2 hcells hsizes, h.ghnd, ⟨fun k q hk => ?_, h.kp.x, fun k hk => Nat.lt_of_lt_of_le (h.kp.lt k hk) hrel.below.sz, h.kp.off⟩⟩
    · obtain ⟨q1, q2, us, ty, q3, q4, q5⟩ := h.blk b cs hb
      cases hs : seen (β b) with
      | true =>
        obtain ⟨b1, cs1, e, e2⟩ := seen_of _ hs
        have hb1 := (ho b1 cs1 e).1
        obtain rfl := h.inj b b1 (by rw [hb]; rfl) (by rw [hb1]; rfl) e2
        rw [hb] at hb1
        obtain rfl := Option.some.inj hb1
        obtain ⟨r1, r2, us', ty', r3, r4, r5⟩ := hrel.blk b cs (hsame b cs e).1
        rw [(hpin b cs e).1] at r3
        refine ⟨q1, q2, us', ty', r3, r4, ((r5.pure (hpure b cs e)).mono fun a u ha hx => ⟨ha, fun hX => hx (hXX _ hX)⟩).lq⟩
      | false => exact ⟨q1, q2, us, ty, objs _ _ hs q3, q4, q5.mono fun u x _ hq => hq.mono2 hcells hsizes⟩
    · have q := h.below.nc k _ hk hq
      refine objs k _ ?_ q
      cases hs : seen k with
      | false => rfl
      | true =>
        obtain ⟨b, cs, e, rfl⟩ := seen_of k hs
        obtain ⟨us, ty, q3, _⟩ := hsome b cs e
        rw [q3] at q
        exact absurd (Option.some.inj q).symm (hq _ _ _)
    · have q := h.kp.obj k q hk
      refine objs k _ ?_ q
      cases hs : seen k with
      | false => rfl
      | true =>
        obtain ⟨b, cs, e, e2⟩ := seen_of k hs
        exact absurd e2.symm (h.kp.off k (.inl (by rw [hk]; rfl)) b (by rw [(ho b cs e).1]; rfl))
  refine ⟨v, rfl, hback, ?_⟩
  cases hq : o with
  | some q =>
    obtain ⟨b, cs⟩ := q
    obtain ⟨_, q2, rfl⟩ := hsame b cs hq
    exact (hv.pure q2).mono fun a u ha hx => ⟨ha, fun hX => hx (hXX _ hX)⟩
  | none =>
    have seen_no := seen_none hq
    subst hq
    simp only [hideR, Option.some.injEq] at hd
    subst hd
    exact rowOf_rep hrel hv hXX fun b cs hb k hk e => hrel.kp.off k (.inr ⟨hk, seen_no k⟩) b (by show (blks'.getD b none).isSome = true; have hb' : blks'.getD b none = some cs := hb; rw [hb']; rfl) e.symm

/-- The same where a slice over a new own block comes back. -/
theorem hide_new {c : Ctx} {n : Nat} {s : FSt} {a : Act} {w : World} {β : Nat → Nat} {X : Nat → Prop} (h : RelB c n s a w β X) (h0 : c.Good c.w0) {f : FuncId} {fn : Func} (hf : c.P.funcs[f]? = some fn) {args : List D}
    (hargs : ∀ d ∈ args, d.refs = []) {d : D} {blks' : List (Option (List D))} {ns' : List Nat} (hin : Inl c.P c.Good fn 0 args [] [] d blks' ns') {nb : Nat} (hfree : s.blk nb = none) {R : Rec} (hd : newR nb d blks' ns' = some R)
    {vals : List Value} (hvl : vals.length = args.length) (hreps : ∀ i (h : i < vals.length) (h' : i < args.length), RepW β w X vals[i] args[i]) {o : Oper} :
    Calls c.P f vals.toArray w fun e w' => ∃ v, e = .returned v ∧ Rel c n (s.app n o.dst R) (a.put o.dst v) w' := by
  let c' : Ctx := { c with gh := [], gb := 0, rd := none, dfs := [], ns := w.heap.size, kp := fun k => w.heap[k]?, kx := fun k => X k }
  have hstart : RelB c' 0 ⟨fun _ => .any, fun b => ([] : List (Option (List D))).getD b none, fun b => ([] : List Nat).contains b⟩ ⟨#[], []⟩ w β X :=
    ⟨rfl, rfl, fun t => .c (.p (.any _)), fun t b hb => by simp [D.refs] at hb, fun b cs hb => by simp at hb, fun b cs hb => by simp at hb, fun b b' hb => by simp at hb, h.F, h.Flt, h.Xlt, ⟨h.below.bel, h.below.nc, Nat.le_refl _⟩, fun p hp => (by cases hp), fun p hp => (by cases hp),
      ⟨fun k q hk => hk, fun k hk => hk, fun k hk => h.Xlt k hk, fun k hk b hb => by simp at hb⟩⟩
  refine (hin f hf c' w β X vals rfl rfl h0 (Nat.le_refl _) rfl rfl hstart hvl hreps (fun x hx b hb => by rw [hargs x hx] at hb; cases hb)).mono fun e w' hend => ?_
  obtain ⟨v, β', X', rfl, hrel, hv, hdl⟩ := hend
  obtain ⟨b, cs, d', hdr, hcs, hpure, rfl, hdd⟩ := newR_some hd
  have hbel : Below w.heap.size w w' := by
    have b1 := h.below.bel
    have b2 := hrel.below.bel
    refine ⟨b2.os.trans b1.os.symm, b2.tape.trans b1.tape.symm, b2.output.trans b1.output.symm, hrel.below.sz, fun k hk => ?_⟩
    rw [hrel.kp.obj k _ (Array.getElem?_eq_getElem hk), Array.getElem?_eq_getElem hk]
  obtain ⟨q1, q2, us, ty, q3, q4, q5⟩ := hrel.blk b cs hcs
  have hk0 : w.heap.size ≤ β' b := by
    rcases Nat.lt_or_ge (β' b) w.heap.size with hlt | hge
    · exact absurd rfl (hrel.kp.off (β' b) (.inl (by show (w.heap[β' b]?).isSome = true; rw [Array.getElem?_eq_getElem hlt]; rfl)) b (by show (blks'.getD b none).isSome = true; rw [hcs]; rfl))
    · exact hge
  have hr : Reps w' (fun k => X k ∨ k = β' b) (us.toList.take cs.length) cs := (q5.pure (anyRef_no hpure)).mono fun a u ha hx => ⟨ha, fun hX => hx (by
    rcases hX with hX | hX
    · exact hrel.kp.x _ hX
    · rw [hX]; exact q2)⟩
  have hnew := h.adopt hbel nb hfree hk0 q3 q4 hr
  refine ⟨v, rfl, _, _, hnew.put (v := v) (d := d') ?_ ?_⟩
  · rcases hdd with ⟨n', size, rfl, rfl⟩ | ⟨off, len, cap, rfl, rfl⟩
    · cases hv with
      | c hv => cases hv with
        | p hp => cases hp
        | gsl _ _ _ cap e h1 h2 h3 =>
          have := RepV.gsl (β := fun k => if k = nb then β' b else β k) (w := w') (X := fun k => X k ∨ k = β' b) nb n' size cap e h1 h2 (by simp only [if_true]; exact h3)
          simp only [if_true] at this
          exact .c this
    · cases hv with
      | c hv => cases hv with
        | p hp => cases hp
        | slc _ _ _ _ h1 h2 =>
          have := RepV.slc (β := fun k => if k = nb then β' b else β k) (w := w') (X := fun k => X k ∨ k = β' b) nb off len cap h1 h2
          simp only [if_true] at this
          exact .c this
  · intro b' hb'
    have : b' = nb := by
      rcases hdd with ⟨n', size, rfl, rfl⟩ | ⟨off, len, cap, rfl, rfl⟩ <;> simpa [D.refs] using hb'
    subst this
    simp [FSt.setBlk]
theorem guard_ok {c : Ctx} {n : Nat} {s : FSt} {a : Act} {w : World} {β : Nat → Nat} {X : Nat → Prop} (h : RelB c n s a w β X) (ops : Array Oper) (o : Oper) : ∀ b, guardSays ops o s.tmp = some b → Region.wanted o (yielded ops a.tmps) = b := by
  intro b hb
  unfold guardSays at hb
  unfold Region.wanted
  split at hb
  · rename_i hg; simp only [Option.some.injEq] at hb; rw [hg]; exact hb
  · rename_i j want hg
    rw [hg]
    split at hb
    · rename_i t ht
      have hv := h.tmp t
      have hy : yielded ops a.tmps j = match a.tmps[t]? with | some (.bool b) => some b | _ => none := by unfold yielded; rw [ht]; rfl
      split at hb
      · rename_i b' hd
        simp only [Option.some.injEq] at hb
        rw [hd] at hv
        have e := toVal_eq (hv.pure rfl) (v := .bool b') rfl
        have : a.tmps[t]? = some (.bool b') := by
          cases hq : a.tmps[t]? with
          | none => simp [Array.getD_eq_getD_getElem?, hq, undef] at e
          | some v => simp [Array.getD_eq_getD_getElem?, hq] at e; rw [e]
        rw [this] at hy
        simp only [hy]
        rw [← hb]
        cases b' <;> cases want <;> rfl
      · rename_i vs hd
        simp only [Option.some.injEq] at hb
        rw [hd] at hv
        have e := toVal_eq (hv.pure rfl) (v := .tuple vs) rfl
        have : yielded ops a.tmps j = none := by
          rw [hy]
          cases hq : a.tmps[t]? with
          | none => rfl
          | some v => simp [Array.getD_eq_getD_getElem?, hq] at e; rw [e]
        simp only [this]
        rw [← hb]
        cases want <;> rfl
      · cases hb
    · cases hb
/-- What the operation does to the concrete frame. -/
theorem opRec_sound {c : Ctx} {n : Nat} {s : FSt} {a : Act} {w : World} {inl : Inline P Good} (hinl : InlOk P Good inl) (hP : c.P = P) (hGd : c.Good = Good) (hG : Steady Good) (h0 : c.Good c.w0) {gb mx : Nat} (hgb : c.gb ≤ gb) (h : Rel c n s a w)
    {ops : Array Oper} {o : Oper} {ro : List Nat} {blks : List (Option (List D))} {ns : List Nat} {tr tr' : List (Item P Good)} {R : Rec} {eqs : List (Got × Got)}
    (hr : opRec P inl ops o ro gb mx s blks ns tr = some (R, tr', eqs)) (he : Agree eqs) (hnb : ∀ b cs d nf, R = .new b cs d nf → s.blk b = none)
    (hbl : R.inner = true → (∀ b, s.blk b = blks.getD b none) ∧ (∀ b, s.nst b = ns.contains b) ∧ (∀ t, n ≤ t → s.tmp t = .any) ∧ ((c.gb ≤ mx ∧ ∀ t b, b ∈ (s.tmp t).refs → b < mx) ∨ mx = blks.length)) {Q : Exit → Act → World → Prop} {K : Act → World → Prop}
    (hK : ∀ a' w', Rel c n (s.app n o.dst R) a' w' → K a' w') :
    if Region.wanted o (yielded ops a.tmps) then o.wp P a w K Q else K (a.put o.dst undef) w := by
  subst hP hGd
  obtain ⟨β, X, h⟩ := h
  rw [opRec_eq] at hr
  have hguard := guard_ok h ops o
  split at hr
  · rename_i hg
    rw [if_pos (hguard _ hg)]
    split at hr
    · rename_i E nd hE
      split at hr
      · rename_i tr1 eqs1 hn
        split at hr
        · rename_i R' tr2 eqs2 hm
          simp only [Option.some.injEq, Prod.mk.injEq] at hr
          obtain ⟨rfl, rfl, rfl⟩ := hr
          obtain ⟨he1, he2⟩ := he.append
          have hok := eff_sound h hgb hE (meetNeed_ok hn he1)
          unfold Oper.wp
          cases E with
          | val d =>
            obtain ⟨v, w', hrun, hb, hv, hnd⟩ := hok
            simp only [meetEff] at hm
            generalize hrw : rewr o.dst d tr1 = q at hm
            obtain ⟨d', tr3, eqs3⟩ := q
            simp only [Option.some.injEq, Prod.mk.injEq] at hm
            obtain ⟨rfl, rfl, rfl⟩ := hm
            obtain rfl := rewr_ok hrw he2
            rw [hrun, Oper.upon_value]
            exact hK _ _ ⟨β, X, (h.grow hb).put hv hnd⟩
          | new b cs d nf =>
            obtain ⟨rfl, w1, us, e, v, hrun, hb1, hs1, hle, hreps, hnf, hd, hv⟩ := hok
            simp only [meetEff, Option.some.injEq, Prod.mk.injEq] at hm
            obtain ⟨rfl, rfl, rfl⟩ := hm
            rw [hrun, Oper.upon_value]
            have hnew := (h.grow hb1).new blks.length (hnb _ cs d nf rfl) e us cs nf hle (hreps.mono fun u x _ hq => hq.mono (stays_below hb1) (shapes_below hb1)) hnf
            refine hK _ _ ⟨_, _, hnew.put (.c (hv _ _ _ (by simp [hs1]) ?_)) (fun b' hb' => ?_)⟩
            · rw [← hs1]; exact shape_of_cells (heap_alloc_new w1 _)
            · rw [hd, List.mem_singleton] at hb'
              subst hb'
              simp [FSt.setBlk]
          | store b off ds d nf =>
            obtain ⟨cs, us, us', e, v, rfl, hb, hu, hrun, hsz, hle, hlu, hreps, hlv⟩ := hok
            simp only [meetEff, Option.some.injEq, Prod.mk.injEq] at hm
            obtain ⟨rfl, rfl, rfl⟩ := hm
            have hlen : (cs.take off ++ (ds ++ cs.drop (off + ds.length))).length = cs.length := by simp; omega
            have hst := h.store b cs (cs.take off ++ (ds ++ cs.drop (off + ds.length))) nf hb us us' e hu hsz (by omega) (by rw [hlen]; exact hreps) (fun d hd b' hb' => by
              rcases List.mem_append.1 hd with hd | hd
              · have := h.ndc b cs hb d (List.mem_of_mem_take hd) b' hb'; exact ⟨by rw [this.1]; rfl, this.2⟩
              · rcases List.mem_append.1 hd with hd | hd
                · exact ⟨by rw [(hlv d hd b' hb').1]; simp, (hlv d hd b' hb').2⟩
                · have := h.ndc b cs hb d (List.mem_of_mem_drop hd) b' hb'; exact ⟨by rw [this.1]; rfl, this.2⟩)
            have : (s.app n o.dst (.store b off ds (.lit v) nf)) = (s.setBlk b (some (cs.take off ++ (ds ++ cs.drop (off + ds.length)))) nf).put n o.dst (.lit v) := by
              simp [FSt.app, hb, splice]
            rcases hrun with ⟨hrun, rfl⟩ | hrun
            · rw [hrun, Oper.upon_skip]
              refine hK _ _ ⟨β, X, ?_⟩
              rw [this]
              exact hst.put (.c (.p (.lit undef))) (fun b' hb' => by simp [D.refs] at hb')
            · rw [hrun, Oper.upon_value]
              refine hK _ _ ⟨β, X, ?_⟩
              rw [this]
              exact hst.put (.c (.p (.lit v))) (fun b' hb' => by simp [D.refs] at hb')
          | grow b cs d =>
            obtain ⟨v, w', β', X', hrun, hrel, hv, hd⟩ := hok
            simp only [meetEff, Option.some.injEq, Prod.mk.injEq] at hm
            obtain ⟨rfl, rfl, rfl⟩ := hm
            rw [hrun, Oper.upon_value]
            refine hK _ _ ⟨β', X', hrel.put (.c hv) (fun b' hb' => ?_)⟩
            rw [hd, List.mem_singleton] at hb'
            subst hb'
            simp [FSt.setBlk]
          | call f args =>
            obtain ⟨vals, hrun, hvl, hreps, hlive⟩ := hok
            by_cases hI : ∃ (fn : Func) (d : D) (blks' : List (Option (List D))) (ns' : List Nat), (R' = .inl blks' ns' d ∨ R' = .own d ∧ cutOk blks blks' d = true) ∧ c.P.funcs[f]? = some fn ∧ Inl c.P c.Good fn mx args blks ns d blks' ns'
            · obtain ⟨fn, d, blks', ns', hRR, hf, hin⟩ := hI
              obtain ⟨hbk, hnk, htn, hmx⟩ := hbl (by rcases hRR with rfl | ⟨rfl, -⟩ <;> rfl)
              have hlt : ∀ b, (s.blk b).isSome = true → b < blks.length := fun b hb => by
                rw [hbk b] at hb
                rcases Nat.lt_or_ge b blks.length with h | h
                · exact h
                · rw [List.getD_eq_getElem?_getD, List.getElem?_eq_none h] at hb; simp at hb
              have hmt : ∀ t b, b ∈ (s.tmp t).refs → b < mx := fun t b hb => hmx.elim (fun q => q.2 t b hb) fun q => by rw [q]; exact hlt b (h.nd t b hb)
              have hmg : ∀ p ∈ c.gh, ∀ b, b ∈ p.2.refs → b < mx := fun p hp b hb => hmx.elim (fun q => Nat.lt_of_lt_of_le (h.ghnd p hp b hb).1 q.1) fun q => by rw [q]; exact hlt b (h.ghnd p hp b hb).2
              rw [hrun, Oper.upon_enter]
              let gh' : List (Value × D) := ((List.range n).map fun t => (a.tmps.getD t undef, s.tmp t)) ++ c.gh
              have hbs : (fun b => blks.getD b none) = s.blk := funext fun b => (hbk b).symm
              have hnn : (fun b => ns.contains b) = s.nst := funext fun b => (hnk b).symm
              have hstart : RelB { c with gh := gh', gb := mx, rd := none, dfs := [] } 0 ⟨fun _ => .any, fun b => blks.getD b none, fun b => ns.contains b⟩ ⟨#[], []⟩ w β X := by
                rw [hbs, hnn]
                refine ⟨rfl, rfl, fun t => .c (.p (.any _)), fun t b hb => by simp [D.refs] at hb, h.blk, h.ndc, h.inj, h.F, h.Flt, h.Xlt, ⟨h.below.bel, h.below.nc, h.below.sz⟩, fun p hp => ?_, fun p hp b hb => ?_, ?_⟩
                · rcases List.mem_append.1 hp with hp | hp
                  · obtain ⟨t, _, rfl⟩ := List.mem_map.1 hp; exact h.tmp t
                  · exact h.gh p hp
                · rcases List.mem_append.1 hp with hp | hp
                  · obtain ⟨t, _, rfl⟩ := List.mem_map.1 hp; exact ⟨hmt t b hb, h.nd t b hb⟩
                  · exact ⟨hmg p hp b hb, (h.ghnd p hp b hb).2⟩
                · exact ⟨h.kp.obj, h.kp.x, h.kp.lt, h.kp.off⟩
              refine (hin f hf { c with gh := gh', gb := mx, rd := none, dfs := [] } w β X vals rfl rfl h0 (Nat.le_refl _) rfl rfl hstart hvl hreps (fun d hd b hb => by rw [← hbk]; exact hlive d hd b hb)).mono fun e w' hend => ?_
              obtain ⟨v, β', X', rfl, hrel, hv, hd⟩ := hend
              rcases hRR with rfl | ⟨rfl, hcut⟩
              case inr =>
                obtain ⟨hdr, hsame⟩ := cutOk_ok hcut
                have back : ∀ b cs, s.blk b = some cs → blks'.getD b none = some cs := fun b cs hb => hsame b cs (by rw [← hbk]; exact hb)
                have hback : RelB c n s a w' β' X' := by
                  refine ⟨h.defers, h.size, fun t => ?_, h.nd, fun b cs hb => hrel.blk b cs (back b cs hb), h.ndc, fun b b' h1 h2 => ?_, hrel.F, hrel.Flt, hrel.Xlt, ⟨hrel.below.bel, hrel.below.nc, hrel.below.sz⟩, fun p hp => hrel.gh p (List.mem_append_right _ hp), h.ghnd, ⟨hrel.kp.obj, hrel.kp.x, hrel.kp.lt, fun k hk b hb => by
                    obtain ⟨c1, e1⟩ := Option.isSome_iff_exists.1 hb
                    exact hrel.kp.off k hk b (by show (blks'.getD b none).isSome = true; rw [back b c1 e1]; rfl)⟩⟩
                  · by_cases ht : t < n
                    · exact hrel.gh (a.tmps.getD t undef, s.tmp t) (List.mem_append_left _ (List.mem_map.2 ⟨t, by simpa using ht, rfl⟩))
                    · rw [htn t (by omega)]; exact .c (.p (.any _))
                  · obtain ⟨c1, e1⟩ := Option.isSome_iff_exists.1 h1
                    obtain ⟨c2, e2⟩ := Option.isSome_iff_exists.1 h2
                    exact hrel.inj b b' (by show (blks'.getD b none).isSome = true; rw [back b c1 e1]; rfl) (by show (blks'.getD b' none).isSome = true; rw [back b' c2 e2]; rfl)
                exact hK _ _ ⟨β', X', hback.put hv (fun b' hb' => by rw [hdr] at hb'; cases hb')⟩
              have hback : RelB c n ⟨s.tmp, fun b => blks'.getD b none, fun b => ns'.contains b⟩ a w' β' X' := by
                refine ⟨h.defers, h.size, fun t => ?_, fun t b hb => ?_, hrel.blk, hrel.ndc, hrel.inj, hrel.F, hrel.Flt, hrel.Xlt, ⟨hrel.below.bel, hrel.below.nc, hrel.below.sz⟩, fun p hp => hrel.gh p (List.mem_append_right _ hp), fun p hp b hb => ?_, ⟨hrel.kp.obj, hrel.kp.x, hrel.kp.lt, hrel.kp.off⟩⟩
                · by_cases ht : t < n
                  · exact hrel.gh (a.tmps.getD t undef, s.tmp t) (List.mem_append_left _ (List.mem_map.2 ⟨t, by simpa using ht, rfl⟩))
                  · show RepW β' w' X' _ (s.tmp t)
                    rw [htn t (by omega)]; exact .c (.p (.any _))
                · by_cases ht : t < n
                  · exact (hrel.ghnd (a.tmps.getD t undef, s.tmp t) (List.mem_append_left _ (List.mem_map.2 ⟨t, by simpa using ht, rfl⟩)) b hb).2
                  · have hb' : b ∈ (s.tmp t).refs := hb
                    rw [htn t (by omega)] at hb'; simp [D.refs] at hb'
                · exact ⟨(h.ghnd p hp b hb).1, (hrel.ghnd p (List.mem_append_right _ hp) b hb).2⟩
              exact hK _ _ ⟨β', X', hback.put hv hd⟩
            simp only [meetEff] at hm
            split at hm
            · rename_i g xs r hspec tr3
              split at hm
              · split at hm
                · rename_i hflat
                  simp only [Option.some.injEq, Prod.mk.injEq] at hm
                  obtain ⟨rfl, rfl, rfl⟩ := hm
                  have h1 := he2 _ (List.mem_cons_self ..)
                  simp only [Got.call.injEq] at h1
                  obtain ⟨rfl, rfl⟩ := h1
                  rw [hrun, Oper.upon_enter]
                  refine (hspec w (fun k => X k ∧ ∀ b cs, s.blk b = some cs → k ≠ β b) vals (h.good hG h0) ⟨by simpa using hvl, fun i h1 h2 => ?_⟩ (fun k hk => h.Xlt k hk.1)).mono fun e w' hend => ?_
                  · rw [List.getElem_map]
                    exact rowOf_rep h (hreps i h1 (by simpa using h2)) (fun k hk => hk.1) (fun b cs hb k hk => hk.2 b cs hb)
                  · obtain ⟨v, rfl, hv, hb, _⟩ := hend
                    cases r <;> simp only [D.flat, Bool.false_eq_true] at hflat
                    cases hv
                    exact hK _ _ ⟨β, X, (h.grow hb).put (.c (.p (.lit _))) (fun b' hb' => by simp [D.refs] at hb')⟩
                · cases hm
              · rename_i hown
                have hno : ∀ d ∈ args, d.refs = [] := by
                  intro d hd
                  simp only [List.any_eq_true, not_exists, not_and, Bool.not_eq_true] at hown
                  have := hown d hd
                  simpa using this
                generalize hrw : rewr o.dst r tr3 = q at hm
                obtain ⟨d', tr4, eqs3⟩ := q
                simp only [Option.some.injEq, Prod.mk.injEq] at hm
                obtain ⟨rfl, rfl, rfl⟩ := hm
                have h1 := he2 _ (List.mem_cons_self ..)
                simp only [Got.call.injEq] at h1
                obtain ⟨rfl, rfl⟩ := h1
                obtain rfl := rewr_ok hrw (fun e he' => he2 e (List.mem_cons_of_mem _ he'))
                rw [hrun, Oper.upon_enter]
                refine (hspec w X vals (h.good hG h0) ⟨by simpa using hvl, fun i h1 h2 => ?_⟩ h.Xlt).mono fun e w' hend => ?_
                · rw [List.getElem_map]
                  exact relax_rep ((hreps i h1 (by simpa using h2)).pure (hno _ (List.getElem_mem _)))
                · obtain ⟨v, rfl, hv, hb, _⟩ := hend
                  exact hK _ _ ⟨β, X, (h.grow hb).put (.c (.p hv)) (fun b' hb' => by rw [repP_refs hv] at hb'; cases hb')⟩
            · rename_i g xs m cs hspec tr3
              split at hm
              · cases hm
              · rename_i hown
                have hno : ∀ d ∈ args, d.refs = [] := by
                  intro d hd
                  simp only [List.any_eq_true, not_exists, not_and, Bool.not_eq_true] at hown
                  have := hown d hd
                  simpa using this
                simp only [Option.some.injEq, Prod.mk.injEq] at hm
                obtain ⟨rfl, rfl, rfl⟩ := hm
                have h1 := he2 _ (List.mem_cons_self ..)
                simp only [Got.call.injEq] at h1
                obtain ⟨rfl, rfl⟩ := h1
                rw [hrun, Oper.upon_enter]
                refine (hspec w X vals (h.good hG h0) ⟨by simpa using hvl, fun i h1 h2 => ?_⟩ h.Xlt).mono fun e w' hend => ?_
                · rw [List.getElem_map]
                  exact relax_rep ((hreps i h1 (by simpa using h2)).pure (hno _ (List.getElem_mem _)))
                · obtain ⟨k, us, ty, rfl, hm1, hk, hu, hle, hrr, hb, _⟩ := hend
                  have hnew := h.adopt hb blks.length (hnb _ _ _ _ rfl) hk hu hle hrr
                  refine hK _ _ ⟨_, _, hnew.put (v := .slice (some ⟨k, 0, none⟩) m m) ?_ (fun b' hb' => ?_)⟩
                  · have := RepV.slc (β := fun j => if j = blks.length then k else β j) (w := w') (X := fun j => X j ∨ j = k) blks.length 0 m m (Nat.le_refl _) hm1
                    simp only [if_true] at this
                    exact .c this
                  · simp only [D.refs, List.mem_singleton] at hb'
                    subst hb'
                    simp [FSt.setBlk]
            · rename_i g xs r hspec tr3
              simp only [Option.some.injEq, Prod.mk.injEq] at hm
              obtain ⟨rfl, rfl, rfl⟩ := hm
              have h1 := he2 _ (List.mem_cons_self ..)
              simp only [Got.call.injEq] at h1
              obtain ⟨rfl, rfl⟩ := h1
              rw [hrun, Oper.upon_enter]
              exact (hspec w vals (h.good hG h0) ⟨by simpa using hvl, fun i h1 h2 => by
                rw [List.getElem_map]
                exact rowOf_rep h (hreps i h1 (by simpa using h2)) (fun k hk => hk.elim) (fun b cs hb k hk => hk.elim)⟩).mono fun e w' hend => by
                  obtain ⟨v, rfl, hv, hb, _⟩ := hend
                  exact hK _ _ ⟨β, X, (h.grow hb).put (.c (.p (hv.mono fun a u hu hx => ⟨hu, fun hX => hx (h.Xlt _ hX)⟩))) (fun b' hb' => by rw [repP_refs hv] at hb'; cases hb')⟩
            · rename_i ro' g fn hf tr3
              split at hm
              · rename_i d blks' ns' tr4 eqs3 hi
                simp only [Option.some.injEq, Prod.mk.injEq] at hm
                obtain ⟨rfl, rfl, rfl⟩ := hm
                have h1 := he2 _ (List.mem_cons_self ..)
                simp only [Got.call.injEq, and_true] at h1
                subst h1
                exact absurd ⟨_, _, _, _, .inl rfl, hf, hinl _ _ _ _ _ _ _ _ _ _ _ _ hi fun e he' => he2 e (List.mem_cons_of_mem _ he')⟩ hI
              · cases hm
            · rename_i A tr3
              have hid : ∀ {tr2 eqs2}, autoHide c.P inl A f args s.blk tr3 = some (R', tr2, eqs2) → Agree eqs2 → Calls c.P f vals.toArray w fun e w' => ∃ v, e = .returned v ∧ K (a.put o.dst v) w' := fun h9 h8 => by
                obtain ⟨o1, fn, d, blks', ns', d', q1, q2, q3, q4, rfl⟩ := autoHide_some h9
                obtain ⟨r1, r2⟩ := hideOf_ok q1
                refine (hide_call h h0 q2 r1 r2 ((inlA_some q3 q2).elim id fun q => hinl _ _ _ _ _ _ _ _ _ _ _ _ q h8) q4 hvl hreps).mono fun e w' hend => ?_
                obtain ⟨v, rfl, hb, hv⟩ := hend
                exact ⟨v, rfl, hK _ _ ⟨β, X, hb.put (.c (.p hv)) (fun b' hb' => by rw [repP_refs hv] at hb'; cases hb')⟩⟩
              have inn : ∀ {tr2 eqs2}, autoIn c.P inl A mx f args blks ns tr3 = some (R', tr2, eqs2) → Agree eqs2 → False := fun h9 h8 => by
                obtain ⟨fn, d, blks', ns', q1, q2, q3⟩ := autoIn_some h9
                exact hI ⟨_, _, _, _, q3, q1, (inlA_some q2 q1).elim id fun q => hinl _ _ _ _ _ _ _ _ _ _ _ _ q h8⟩
              split at hm
              · split at hm
                · rename_i x hx
                  simp only [Option.some.injEq] at hm
                  subst hm
                  rw [hrun, Oper.upon_enter]
                  exact (hid hx he2).mono fun e w' hend => by obtain ⟨v, rfl, hk⟩ := hend; exact hk
                split at hm
                · rename_i r horc
                  simp only [Option.some.injEq, Prod.mk.injEq] at hm
                  obtain ⟨rfl, rfl, rfl⟩ := hm
                  rw [hrun, Oper.upon_enter]
                  exact (A.okF _ _ _ horc w vals (h.good hG h0) ⟨by simpa using hvl, fun i h1 h2 => by
                    rw [List.getElem_map]
                    exact rowOf_rep h (hreps i h1 (by simpa using h2)) (fun k hk => hk.elim) (fun b cs hb k hk => hk.elim)⟩).mono fun e w' hend => by
                      obtain ⟨v, rfl, hv, hb, _⟩ := hend
                      exact hK _ _ ⟨β, X, (h.grow hb).put (.c (.p (hv.mono fun a u hu hx => ⟨hu, fun hX => hx (h.Xlt _ hX)⟩))) (fun b' hb' => by rw [repP_refs hv] at hb'; cases hb')⟩
                split at hm
                · rename_i r trq eqq horc
                  split at hm
                  · rename_i hflat
                    simp only [Option.some.injEq, Prod.mk.injEq] at hm
                    obtain ⟨rfl, rfl, rfl⟩ := hm
                    rw [hrun, Oper.upon_enter]
                    refine (autoGet_ok horc he2 w (fun k => X k ∧ ∀ b cs, s.blk b = some cs → k ≠ β b) vals (h.good hG h0) ⟨by simpa using hvl, fun i h1 h2 => ?_⟩ (fun k hk => h.Xlt k hk.1)).mono fun e w' hend => ?_
                    · rw [List.getElem_map]
                      exact rowOf_rep h (hreps i h1 (by simpa using h2)) (fun k hk => hk.1) (fun b cs hb k hk => hk.2 b cs hb)
                    · obtain ⟨v, rfl, hv, hb, _⟩ := hend
                      cases r <;> simp only [D.flat, Bool.false_eq_true] at hflat
                      cases hv
                      exact hK _ _ ⟨β, X, (h.grow hb).put (.c (.p (.lit _))) (fun b' hb' => by simp [D.refs] at hb')⟩
                  · cases hm
                · exact (inn hm he2).elim
              · rename_i hown
                have hno : ∀ d ∈ args, d.refs = [] := by
                  intro d hd
                  simp only [List.any_eq_true, not_exists, not_and, Bool.not_eq_true] at hown
                  have := hown d hd
                  simpa using this
                split at hm
                · rename_i r trq eqq horc
                  simp only [Option.some.injEq, Prod.mk.injEq] at hm
                  obtain ⟨rfl, rfl, rfl⟩ := hm
                  rw [hrun, Oper.upon_enter]
                  refine (autoGet_ok horc he2 w X vals (h.good hG h0) ⟨by simpa using hvl, fun i h1 h2 => ?_⟩ h.Xlt).mono fun e w' hend => ?_
                  · rw [List.getElem_map]
                    exact relax_rep ((hreps i h1 (by simpa using h2)).pure (hno _ (List.getElem_mem _)))
                  · obtain ⟨v, rfl, hv, hb, _⟩ := hend
                    exact hK _ _ ⟨β, X, (h.grow hb).put (.c (.p hv)) (fun b' hb' => by rw [repP_refs hv] at hb'; cases hb')⟩
                · split at hm
                  · rename_i x hx
                    simp only [Option.some.injEq] at hm
                    subst hm
                    rw [hrun, Oper.upon_enter]
                    obtain ⟨fn, d, blks', ns', q1, q2, q3⟩ := autoHideN_some hx
                    obtain ⟨b1, cs1, d1, _, _, _, hRe, _⟩ := newR_some q3
                    exact (hide_new h h0 q1 hno ((inlA_some q2 q1).elim id fun q => hinl _ _ _ _ _ _ _ _ _ _ _ _ q he2) (hnb _ _ _ _ hRe) q3 hvl hreps).mono fun e w' hend => by obtain ⟨v, rfl, hk⟩ := hend; exact hK _ _ hk
                  split at hm
                  · rename_i x hx
                    simp only [Option.some.injEq] at hm
                    subst hm
                    rw [hrun, Oper.upon_enter]
                    exact (hid hx he2).mono fun e w' hend => by obtain ⟨v, rfl, hk⟩ := hend; exact hk
                  · exact (inn hm he2).elim
            · cases hm
        · cases hr
      · cases hr
    · cases hr
  · rename_i hg
    rw [hguard _ hg]
    simp only [Option.some.injEq, Prod.mk.injEq] at hr
    obtain ⟨rfl, rfl, rfl⟩ := hr
    exact hK _ _ ⟨β, X, h.put (.c (.p (.lit undef))) (fun b' hb' => by simp [D.refs] at hb')⟩
  · cases hr

theorem opRec_defer {inl : Inline P Good} {ops : Array Oper} {o : Oper} {ro : List Nat} {gb mx : Nat} {s : FSt} {blks : List (Option (List D))} {ns : List Nat} {tr tr' : List (Item P Good)} {R : Rec} {eqs : List (Got × Got)}
    (hr : opRec P inl ops o ro gb mx s blks ns tr = some (R, tr', eqs)) : (∀ c, o.op ≠ .defer c) ∨ guardSays ops o s.tmp = some false := by
  rw [opRec_eq] at hr
  split at hr
  · left
    intro c hc
    unfold eff at hr
    simp only [hc] at hr
    cases hr
  · rename_i hg; exact .inr hg
  · cases hr
/-- The same for a frame of a round or of none. -/
theorem opRec_soundIn {c : Ctx} {n : Nat} {s : FSt} {a : Act} {w : World} {inl : Inline P Good} (hinl : InlOk P Good inl) (hP : c.P = P) (hGd : c.Good = Good) (hG : Steady Good) (h0 : c.Good c.w0) {gb mx : Nat} (hgb : c.gb ≤ gb) (h : Rel c n s a w)
    {ops : Array Oper} {o : Oper} {ro : List Nat} {blks : List (Option (List D))} {ns : List Nat} {tr tr' : List (Item P Good)} {R : Rec} {eqs : List (Got × Got)}
    (hr : opRec P inl ops o ro gb mx s blks ns tr = some (R, tr', eqs)) (he : Agree eqs) (hnb : ∀ b cs d nf, R = .new b cs d nf → s.blk b = none)
    (hbl : R.inner = true → (∀ b, s.blk b = blks.getD b none) ∧ (∀ b, s.nst b = ns.contains b) ∧ (∀ t, n ≤ t → s.tmp t = .any) ∧ ((c.gb ≤ mx ∧ ∀ t b, b ∈ (s.tmp t).refs → b < mx) ∨ mx = blks.length)) {Q : Exit → Act → World → Prop} {K : Act → World → Prop} {r : Option Nat}
    (hK : ∀ a' w', Rel c n (s.app n o.dst R) a' w' → K a' w') :
    if Region.wanted o (yielded ops a.tmps) then o.wpIn (Fw r) 0 P a w K Q else (∀ f, o.about P w a.eval = some f → (Fw r).fn f) ∧ K (a.put o.dst undef) w := by
  have h1 := opRec_sound hinl hP hGd hG h0 hgb h hr he hnb hbl (Q := Q) hK
  by_cases hw : Region.wanted o (yielded ops a.tmps) = true
  · rw [if_pos hw] at h1 ⊢
    refine wp_in ?_ h1
    rcases opRec_defer hr with g | g
    · exact g
    · obtain ⟨β, X, hB⟩ := h
      have := guard_ok hB ops o _ g
      rw [hw] at this; cases this
  · rw [if_neg hw] at h1 ⊢
    exact ⟨fun f _ => trivial, h1⟩
/-- On the blocks of which cells may point into own blocks. -/
def mapNst (ns : List Nat) (f : D → D) : Nat → List (Option (List D)) → List (Option (List D))
  | _, [] => []
  | i, x :: l => (if ns.contains i then x.map (List.map f) else x) :: mapNst ns f (i + 1) l
theorem mapNst_len (ns : List Nat) (f : D → D) : ∀ (i : Nat) (l : List (Option (List D))), (mapNst ns f i l).length = l.length
  | _, [] => rfl
  | i, x :: l => by simp [mapNst, mapNst_len ns f (i + 1) l]
theorem mapNst_getD (ns : List Nat) (f : D → D) : ∀ (i : Nat) (l : List (Option (List D))) (k : Nat), (mapNst ns f i l).getD k none = if ns.contains (i + k) then (l.getD k none).map (List.map f) else l.getD k none
  | i, [], k => by simp [mapNst]
  | i, x :: l, k => by
    cases k with
    | zero => simp [mapNst]
    | succ k =>
      have := mapNst_getD ns f (i + 1) l k
      simp only [mapNst, List.getD_cons_succ, this, Nat.add_assoc, Nat.add_comm 1 k]
/-- The same on lists. -/
def St.app (s : St) (dst : Option Tmp) (R : Rec) : St :=
  let put (l : List D) (d : D) : List D := match dst with | some t => l.set t d | none => l
  match R with
  | .val d => { s with tmps := put s.tmps d }
  | .new _ cs d nf => { tmps := put s.tmps d, blks := s.blks ++ [some cs], nst := if nf then s.blks.length :: s.nst else s.nst }
  | .store b off ds d nf => { tmps := put s.tmps d, blks := match s.blks.getD b none with | some cs => s.blks.set b (some (splice cs off ds)) | none => s.blks, nst := if nf then b :: s.nst else s.nst }
  | .grow b cs d => { tmps := put (s.tmps.map (D.clear b)) d, blks := (mapNst s.nst (D.clear b) 0 s.blks).set b (some cs), nst := s.nst }
  | .own d => { s with tmps := put s.tmps d }
  | .inl blks ns d => { tmps := put s.tmps d, blks := blks, nst := ns }

theorem getD_set_tmp (l : List D) (t u : Nat) (d : D) : (l.set t d).getD u .any = if some t = some u ∧ u < l.length then d else l.getD u .any := by
  simp only [List.getD_eq_getElem?_getD, List.getElem?_set]
  by_cases h : t = u
  · subst h
    by_cases h2 : t < l.length
    · simp [h2]
    · simp [h2]
  · simp [h]
theorem getD_set_blk (l : List (Option (List D))) (b k : Nat) (x : Option (List D)) (h : b < l.length) : (l.set b x).getD k none = if k = b then x else l.getD k none := by
  simp only [List.getD_eq_getElem?_getD, List.getElem?_set]
  by_cases hk : k = b
  · subst hk; simp [h]
  · rw [if_neg (Ne.symm hk), if_neg hk]
theorem lt_of_live {l : List (Option (List D))} {b : Nat} {cs : List D} (h : l.getD b none = some cs) : b < l.length := by
  rcases Nat.lt_or_ge b l.length with h' | h'
  · exact h'
  · rw [List.getD_eq_getElem?_getD, List.getElem?_eq_none h'] at h; cases h
theorem nst_cons (ns : List Nat) (b : Nat) (nf : Bool) : (fun k => (if nf then b :: ns else ns).contains k) = fun k => ns.contains k || (nf && (k == b)) := by
  funext k
  cases nf with
  | true => rw [Bool.eq_iff_iff]; simp [or_comm]
  | false => simp
theorem St.app_fs (s : St) (dst : Option Tmp) (R : Rec) (hb : ∀ b cs d nf, R = .new b cs d nf → b = s.blks.length) (hg : ∀ b cs d, R = .grow b cs d → b < s.blks.length) :
    (s.app dst R).fs = s.fs.app s.tmps.length dst R ∧ (s.app dst R).tmps.length = s.tmps.length := by
  have hput : ∀ (l : List D) (d : D), l.length = s.tmps.length → (fun t => (match dst with | some t => l.set t d | none => l).getD t .any) = fun t => if dst = some t ∧ t < s.tmps.length then d else l.getD t .any := by
    intro l d hl
    funext u
    cases dst with
    | none => simp
    | some t => rw [← hl]; exact getD_set_tmp l t u d
  have hlen : ∀ (l : List D) d, l.length = s.tmps.length → (match dst with | some t => l.set t d | none => l).length = s.tmps.length := by intro l d hl; cases dst <;> simp [hl]
  cases R with
  | val d => exact ⟨by simp only [St.app, St.fs, FSt.app, FSt.put, hput s.tmps d rfl], hlen _ d rfl⟩
  | own d => exact ⟨by simp only [St.app, St.fs, FSt.app, FSt.put, hput s.tmps d rfl], hlen _ d rfl⟩
  | inl blks ns d => exact ⟨by simp only [St.app, St.fs, FSt.app, FSt.put, hput s.tmps d rfl], hlen _ d rfl⟩
  | new b cs d nf =>
    obtain rfl := hb b cs d nf rfl
    refine ⟨?_, hlen _ d rfl⟩
    simp only [St.app, St.fs, FSt.app, FSt.put, FSt.setBlk, hput s.tmps d rfl, nst_cons]
    congr 1
    funext k
    by_cases hk : k = s.blks.length
    · subst hk; simp [List.getD_eq_getElem?_getD]
    · rw [if_neg hk]
      simp only [List.getD_eq_getElem?_getD]
      by_cases h2 : k < s.blks.length
      · rw [List.getElem?_append_left h2]
      · rw [List.getElem?_eq_none (by simp; omega), List.getElem?_eq_none (by omega)]
  | grow b cs d =>
    have hlt := hg b cs d rfl
    refine ⟨?_, hlen _ d (by simp)⟩
    simp only [St.app, St.fs, FSt.app, FSt.put, FSt.setBlk, FSt.clear, hput (s.tmps.map (D.clear b)) d (by simp), Bool.false_and, Bool.or_false]
    congr 1
    · funext t
      split
      · rfl
      · simp only [List.getD_eq_getElem?_getD, List.getElem?_map]
        cases s.tmps[t]? with
        | none => simp [D.clear, D.refs]
        | some x => rfl
    · funext k
      rw [getD_set_blk _ b k _ (by rw [mapNst_len]; exact hlt), mapNst_getD, Nat.zero_add]
      by_cases hk : k = b
      · rw [if_pos hk, if_pos hk]
      · rw [if_neg hk, if_neg hk]; rfl
  | store b off ds d nf =>
    refine ⟨?_, hlen _ _ rfl⟩
    simp only [St.app, St.fs, FSt.app, FSt.put, FSt.setBlk, hput s.tmps _ rfl, nst_cons]
    congr 1
    funext k
    cases hbk : s.blks.getD b none with
    | none =>
      by_cases hk : k = b
      · rw [hk, if_pos rfl, hbk]; rfl
      · rw [if_neg hk]
    | some cs => exact getD_set_blk s.blks b k _ (lt_of_live hbk)

/-- The block that an operation looks at or writes. -/
def accOf (o : Oper) (ρ : Operand → D) : Option Nat :=
  match o.op with
  | .load _ x => match ρ x with | .ptr b _ => some b | _ => none
  | .store _ x _ => match ρ x with | .ptr b _ => some b | _ => none
  | .call k => match k.callee with
    | .value x => (((match ρ x with | .fn _ xs _ => xs | _ => []) ++ k.args.toList.map ρ ++ (match ρ x with | .fn _ _ ys => ys | _ => [])).flatMap D.refs).head?
    | .builtin .copy => match k.args.toList.map ρ with | .slc b _ _ _ :: _ => some b | .gsl b _ _ :: _ => some b | _ => none
    | .builtin .append => match k.args.toList.map ρ with | .slc b _ _ _ :: _ => some b | .gsl b _ _ :: _ => some b | _ => none
    | _ => none
  | _ => none

/-- The operations one behind the other; also what became of each, and which block it met. -/
def runOps (P : Program) {Good : World → Prop} (inl : Inline P Good) (dr : Bool) (ops : Array Oper) (ro : List Nat) (gb : Nat) : List Oper → St → List (Item P Good) → Option (St × List (Item P Good) × List (Got × Got) × List (Rec × Option Nat))
  | [], s, tr => some (s, tr, [], [])
  | o :: rest, s, tr => match opRec P inl ops o ro gb (mxA dr gb s) s.fs s.blks s.nst tr with
    | some (R, tr1, eqs1) => match runOps P inl dr ops ro gb rest (s.app o.dst R) tr1 with
      | some (s', tr2, eqs2, recs) => some (s', tr2, eqs1 ++ eqs2, (R, accOf o s.fs.ev) :: recs)
      | none => none
    | none => none

theorem eff_new {o : Oper} {ρ : Operand → D} {blk : Nat → Option (List D)} {nst : Nat → Bool} {nb : Nat} {ro fz : Bool} {gb b : Nat} {cs : List D} {d : D} {nf : Bool} {nd : Need}
    (h : eff P o ρ blk nst nb ro gb fz = some (.new b cs d nf, nd)) : b = nb := by
  unfold eff at h
  repeat' split at h
  all_goals first | (cases h; done) | (simp only [Option.some.injEq, Prod.mk.injEq, Eff.new.injEq] at h; exact h.1.1.symm)
theorem eff_grow {o : Oper} {ρ : Operand → D} {blk : Nat → Option (List D)} {nst : Nat → Bool} {nb : Nat} {ro fz : Bool} {gb b : Nat} {cs : List D} {d : D} {nd : Need}
    (h : eff P o ρ blk nst nb ro gb fz = some (.grow b cs d, nd)) : ∃ cs', blk b = some cs' := by
  unfold eff at h
  repeat' split at h
  all_goals first | (cases h; done) | (simp only [Option.some.injEq, Prod.mk.injEq, Eff.grow.injEq] at h; obtain ⟨⟨rfl, -, -⟩, -⟩ := h; exact ⟨_, by assumption⟩)
theorem opRec_new {inl : Inline P Good} {ops : Array Oper} {o : Oper} {ro : List Nat} {gb mx : Nat} {s : FSt} {blks : List (Option (List D))} {ns : List Nat} {tr tr' : List (Item P Good)} {eqs : List (Got × Got)} {R : Rec}
    (h : opRec P inl ops o ro gb mx s blks ns tr = some (R, tr', eqs)) : (∀ b cs d nf, R = .new b cs d nf → b = blks.length) ∧ (∀ b cs d, R = .grow b cs d → ∃ cs', s.blk b = some cs') := by
  have no : ∀ {R2 : Rec}, (∀ b cs d nf, R2 ≠ .new b cs d nf) → (∀ b cs d, R2 ≠ .grow b cs d) → (∀ b cs d nf, R2 = .new b cs d nf → b = blks.length) ∧ (∀ b cs d, R2 = .grow b cs d → ∃ cs', s.blk b = some cs') :=
    fun h1 h2 => ⟨fun b cs d nf e => absurd e (h1 b cs d nf), fun b cs d e => absurd e (h2 b cs d)⟩
  rw [opRec_eq] at h
  split at h
  · split at h
    · rename_i E nd hE
      split at h
      · split at h
        · rename_i R2 tr2 eqs2 hm
          simp only [Option.some.injEq, Prod.mk.injEq] at h
          obtain ⟨rfl, -, -⟩ := h
          cases E with
          | val d => simp only [meetEff, Option.some.injEq, Prod.mk.injEq] at hm; obtain ⟨rfl, -, -⟩ := hm; exact no (by intros; simp) (by intros; simp)
          | new b' cs' d' nf' =>
            simp only [meetEff, Option.some.injEq, Prod.mk.injEq] at hm
            obtain ⟨rfl, -, -⟩ := hm
            exact ⟨(fun _ _ _ _ h => by cases h; exact eff_new hE), (fun _ _ _ h => by cases h)⟩
          | store => simp only [meetEff, Option.some.injEq, Prod.mk.injEq] at hm; obtain ⟨rfl, -, -⟩ := hm; exact no (by intros; simp) (by intros; simp)
          | grow b' cs' d' =>
            simp only [meetEff, Option.some.injEq, Prod.mk.injEq] at hm
            obtain ⟨rfl, -, -⟩ := hm
            exact ⟨(fun _ _ _ _ h => by cases h), (fun _ _ _ h => by cases h; exact eff_grow hE)⟩
          | call f args =>
            simp only [meetEff] at hm
            split at hm
            · split at hm
              · split at hm
                · simp only [Option.some.injEq, Prod.mk.injEq] at hm; obtain ⟨rfl, -, -⟩ := hm; exact no (by intros; simp) (by intros; simp)
                · cases hm
              · simp only [Option.some.injEq, Prod.mk.injEq] at hm; obtain ⟨rfl, -, -⟩ := hm; exact no (by intros; simp) (by intros; simp)
            · split at hm
              · cases hm
              · simp only [Option.some.injEq, Prod.mk.injEq] at hm; obtain ⟨rfl, -, -⟩ := hm; exact ⟨(fun _ _ _ _ h => by cases h; rfl), (fun _ _ _ h => by cases h)⟩
            · simp only [Option.some.injEq, Prod.mk.injEq] at hm; obtain ⟨rfl, -, -⟩ := hm; exact no (by intros; simp) (by intros; simp)
            · split at hm
              · simp only [Option.some.injEq, Prod.mk.injEq] at hm; obtain ⟨rfl, -, -⟩ := hm; exact no (by intros; simp) (by intros; simp)
              · cases hm
            · split at hm
              · split at hm
                · rename_i hx; simp only [Option.some.injEq] at hm; subst hm; obtain ⟨_, _, _, _, _, _, _, _, _, _, rfl⟩ := autoHide_some hx; exact no (by intros; simp) (by intros; simp)
                split at hm
                · simp only [Option.some.injEq, Prod.mk.injEq] at hm; obtain ⟨rfl, -, -⟩ := hm; exact no (by intros; simp) (by intros; simp)
                split at hm
                · split at hm
                  · simp only [Option.some.injEq, Prod.mk.injEq] at hm; obtain ⟨rfl, -, -⟩ := hm; exact no (by intros; simp) (by intros; simp)
                  · cases hm
                · obtain ⟨fn, d, blks', ns', q1, q2, rfl | ⟨rfl, -⟩⟩ := autoIn_some hm <;> exact no (by intros; simp) (by intros; simp)
              · split at hm
                · simp only [Option.some.injEq, Prod.mk.injEq] at hm; obtain ⟨rfl, -, -⟩ := hm; exact no (by intros; simp) (by intros; simp)
                split at hm
                · rename_i hx; simp only [Option.some.injEq] at hm; subst hm; obtain ⟨_, _, _, _, _, _, hx2⟩ := autoHideN_some hx; obtain ⟨_, _, _, _, _, _, rfl, _⟩ := newR_some hx2; exact ⟨(fun _ _ _ _ h => by cases h; rfl), (fun _ _ _ h => by cases h)⟩
                split at hm
                · rename_i hx; simp only [Option.some.injEq] at hm; subst hm; obtain ⟨_, _, _, _, _, _, _, _, _, _, rfl⟩ := autoHide_some hx; exact no (by intros; simp) (by intros; simp)
                · obtain ⟨fn, d, blks', ns', q1, q2, rfl | ⟨rfl, -⟩⟩ := autoIn_some hm <;> exact no (by intros; simp) (by intros; simp)
            · cases hm
        · cases h
      · cases h
    · cases h
  · simp only [Option.some.injEq, Prod.mk.injEq] at h; obtain ⟨rfl, -, -⟩ := h; exact no (by intros; simp) (by intros; simp)
  · cases h
theorem blk_len_none (s : St) : s.fs.blk s.blks.length = none := by simp [St.fs, List.getD_eq_getElem?_getD]
theorem opRec_app {inl : Inline P Good} {ops : Array Oper} {o : Oper} {ro : List Nat} {gb mx : Nat} {s : St} {tr tr' : List (Item P Good)} {eqs : List (Got × Got)} {R : Rec}
    (h : opRec P inl ops o ro gb mx s.fs s.blks s.nst tr = some (R, tr', eqs)) : (s.app o.dst R).fs = s.fs.app s.tmps.length o.dst R ∧ (s.app o.dst R).tmps.length = s.tmps.length := by
  obtain ⟨h1, h2⟩ := opRec_new h
  exact s.app_fs o.dst R h1 (fun b cs d hb => by obtain ⟨cs', hc⟩ := h2 b cs d hb; exact lt_of_live hc)
theorem tmp_out (s : St) : ∀ t, s.tmps.length ≤ t → s.fs.tmp t = .any := fun t ht => by simp [St.fs, List.getD_eq_getElem?_getD, List.getElem?_eq_none ht]

/-- In the order of the text. -/
theorem runOps_sound {dr : Bool} {c : Ctx} {Q : Exit → Act → World → Prop} {inl : Inline P Good} (hinl : InlOk P Good inl) (hP : c.P = P) (hGd : c.Good = Good) (hG : Steady Good) (h0 : c.Good c.w0) {gb : Nat} (hgb : c.gb ≤ gb) {ops : Array Oper} {ro : List Nat} :
    ∀ (l : List Oper) (s s' : St) (tr tr' : List (Item P Good)) (eqs : List (Got × Got)) (recs : List (Rec × Option Nat)) (a : Act) (w : World),
      runOps P inl dr ops ro gb l s tr = some (s', tr', eqs, recs) → Agree eqs → Rel c s.tmps.length s.fs a w → (∀ a' w', Rel c s.tmps.length s'.fs a' w' → Q .normal a' w') → wpListIn (Fw c.rd) 0 P ops Q l a w
  | [], s, s', tr, tr', eqs, recs, a, w, hr, he, h, hQ => by
    simp only [runOps, Option.some.injEq, Prod.mk.injEq] at hr
    obtain ⟨rfl, rfl, rfl, rfl⟩ := hr
    exact hQ a w h
  | o :: rest, s, s', tr, tr', eqs, recs, a, w, hr, he, h, hQ => by
    simp only [runOps] at hr
    split at hr
    · rename_i R tr1 eqs1 h1
      split at hr
      · rename_i s2 tr2 eqs2 recs2 h2
        simp only [Option.some.injEq, Prod.mk.injEq] at hr
        obtain ⟨rfl, rfl, rfl, rfl⟩ := hr
        obtain ⟨he1, he2⟩ := he.append
        obtain ⟨e1, e2⟩ := opRec_app h1
        refine wpListIn_step fun K hK => ?_
        refine opRec_soundIn hinl hP hGd hG h0 hgb h h1 he1 (fun b cs d nf hb => by rw [(opRec_new h1).1 b cs d nf hb]; exact blk_len_none s) (fun _ => ⟨fun b => rfl, fun b => rfl, tmp_out s, mxA_ok _ s hgb⟩) fun a' w' h' => hK _ _ ?_
        rw [← e1, ← e2] at h'
        exact runOps_sound hinl hP hGd hG h0 hgb rest _ _ _ _ _ _ a' w' h2 he2 h' (by rw [e2]; exact hQ)
      · cases hr
    · cases hr
theorem runOps_len {dr : Bool} {inl : Inline P Good} {ops : Array Oper} {ro : List Nat} {gb : Nat} : ∀ (l : List Oper) (s s' : St) (tr tr' : List (Item P Good)) (eqs : List (Got × Got)) (recs : List (Rec × Option Nat)),
      runOps P inl dr ops ro gb l s tr = some (s', tr', eqs, recs) → s'.tmps.length = s.tmps.length
  | [], s, s', tr, tr', eqs, recs, hr => by
    simp only [runOps, Option.some.injEq, Prod.mk.injEq] at hr
    obtain ⟨rfl, rfl, rfl, rfl⟩ := hr; rfl
  | o :: rest, s, s', tr, tr', eqs, recs, hr => by
    simp only [runOps] at hr
    split at hr
    · rename_i R tr1 eqs1 h1
      split at hr
      · rename_i s2 tr2 eqs2 recs2 h2
        simp only [Option.some.injEq, Prod.mk.injEq] at hr
        obtain ⟨rfl, rfl, rfl, rfl⟩ := hr
        rw [runOps_len rest _ _ _ _ _ _ h2, (opRec_app h1).2]
      · cases hr
    · cases hr
end Lw

namespace Lw
open Go Go.RowKit

variable {P : Program} {Good : World → Prop}

/-! ### The effect of an operation depends on what it looks at alone. -/
theorem map_ev_congr {ρ ρ' : Operand → D} {l : List Operand} (h : ∀ x ∈ l, ρ x = ρ' x) : l.map ρ = l.map ρ' := List.map_congr_left h
theorem parts_congr {ρ ρ' : Operand → D} {l : List (Nat × Operand)} (h : ∀ x ∈ l.map (·.2), ρ x = ρ' x) : (l.map fun p => (p.1, ρ p.2)) = l.map fun p => (p.1, ρ' p.2) :=
  List.map_congr_left fun p hp => by rw [h p.2 (List.mem_map_of_mem hp)]
theorem eff_congr {o : Oper} {ρ ρ' : Operand → D} {blk blk' : Nat → Option (List D)} {nst nst' : Nat → Bool} {nb : Nat} {ro fz : Bool} {gb : Nat} (hρ : ∀ x ∈ o.op.operands.toList, ρ x = ρ' x)
    (hb : ∀ b, accOf o ρ = some b → blk b = blk' b) (hap : ∀ k b n sz rest, o.op = .call k → k.callee = .builtin .append → k.args.toList.map ρ = .gsl b n sz :: rest → nst b = nst' b) :
    eff P o ρ blk nst nb ro gb fz = eff P o ρ' blk' nst' nb ro gb fz := by
  unfold eff
  cases hop : o.op <;> simp only [hop, Op.operands] at hρ <;> try dsimp only
  case move x => rw [hρ x (by simp)]
  case assign x => rw [hρ x (by simp)]
  case pick k x y => rw [hρ k (by simp), hρ x (by simp), hρ y (by simp)]
  case box t x => rw [hρ x (by simp)]
  case build t parts => rw [parts_congr (by simpa using hρ)]
  case buildSlice t len parts => rw [parts_congr (by simpa using hρ)]
  case load t x =>
    have hx := hρ x (by simp)
    rw [← hx]
    cases hpx : ρ x with
    | ptr b off => have e := hb b (by simp [accOf, hop, hpx]); simp only [e]
    | _ => rfl
  case store t x y =>
    have hx := hρ x (by simp)
    rw [← hx, ← hρ y (by simp)]
    cases hpx : ρ x with
    | ptr b off =>
      have e := hb b (by simp [accOf, hop, hpx])
      cases (ρ y).cells with
      | none => rfl
      | some ds => cases tySize P t with
        | none => rfl
        | some sz => simp only [e]
    | _ => rfl
  case binOp op t x y u => rw [hρ x (by simp), hρ y (by simp)]
  case nilCheck x => rw [hρ x (by simp)]
  case makeFunc fn first caps =>
    have h1 : first.toList.map ρ = first.toList.map ρ' := map_ev_congr fun x hx => hρ x (by simp; exact .inl (by simpa using hx))
    have h2 : caps.toList.map ρ = caps.toList.map ρ' := map_ev_congr fun x hx => hρ x (by simp; exact .inr (by simpa using hx))
    rw [h1, h2]
  case unOp op t x => rw [hρ x (by simp)]
  case convert t u x => rw [hρ x (by simp)]
  case makeInterface t x => rw [hρ x (by simp)]
  case typeAssert x t u ok => rw [hρ x (by simp)]
  case fieldAddr t x f => rw [hρ x (by simp)]
  case field t x f => rw [hρ x (by simp)]
  case indexAddr t x ix => rw [hρ x (by simp), hρ ix (by simp)]
  case index t x ix => rw [hρ x (by simp), hρ ix (by simp)]
  case extract x i => rw [hρ x (by simp)]
  case makeSlice t l k => rw [hρ l (by simp), hρ k (by simp)]
  case slice t x lo hi mx =>
    cases mx with
    | some m => rfl
    | none =>
      have hx := hρ x (by simp)
      cases lo with
      | none => cases hi with
        | none => simp only [hx]
        | some hi => have h1 := hρ hi (by simp); simp only [hx, h1]
      | some lo =>
        have h0 := hρ lo (by simp)
        cases hi with
        | none => simp only [hx, h0]
        | some hi => have h1 := hρ hi (by simp); simp only [hx, h0, h1]
  case call k =>
    simp only [Call.operands] at hρ
    have ha : k.args.toList.map ρ = k.args.toList.map ρ' := map_ev_congr fun x hx => hρ x (by simp; exact .inr (by simpa using hx))
    have hap' := fun b n sz rest => hap k b n sz rest hop
    rw [ha] at hap' ⊢
    cases hk : k.callee with
    | value f => have := hρ f (by simp [hk]); simp only [this]
    | invoke r m => rfl
    | builtin b =>
      cases b <;> try rfl
      case copy =>
        have hb2 : ∀ b off len cap rest, k.args.toList.map ρ' = .slc b off len cap :: rest → blk b = blk' b := fun b off len cap rest hl => hb b (by
          simp only [accOf, hop, hk, ha, hl])
        have hb3 : ∀ b len gz rest, k.args.toList.map ρ' = .gsl b len gz :: rest → blk b = blk' b := fun b len gz rest hl => hb b (by
          simp only [accOf, hop, hk, ha, hl])
        generalize k.args.toList.map ρ' = l at hb2 hb3
        match l, hb2, hb3 with
        | [], _, _ => rfl
        | [x], _, _ => cases x <;> rfl
        | x :: y :: z :: r, _, _ => cases x <;> cases y <;> rfl
        | [x, y], hb2, hb3 =>
          cases x <;> try rfl
          case gsl b len gz =>
            have e := hb3 b len gz [y] rfl
            cases y <;> try rfl
            case row m f ys =>
              generalize k.argTypes.toList = ts
              match ts with
              | [] => rfl
              | [t] => rfl
              | [t, t'] => simp only [e]
              | t :: t' :: t'' :: r => rfl
          case slc b off len cap =>
            have e := hb2 b off len cap [y] rfl
            cases y <;> try rfl
            case row m f ys =>
              generalize k.argTypes.toList = ts
              match ts with
              | [] => rfl
              | [t] => rfl
              | [t, t'] => simp only [e]
              | t :: t' :: t'' :: r => rfl
      case append =>
        have hap2 := fun b n sz rest => hap' b n sz rest hk
        have hb2 : ∀ b off len cap rest, k.args.toList.map ρ' = .slc b off len cap :: rest → blk b = blk' b := fun b off len cap rest hl => hb b (by
          simp only [accOf, hop, hk, ha, hl])
        have hb3 : ∀ b n sz rest, k.args.toList.map ρ' = .gsl b n sz :: rest → blk b = blk' b := fun b n sz rest hl => hb b (by
          simp only [accOf, hop, hk, ha, hl])
        generalize k.args.toList.map ρ' = l at hap2 hb2 hb3
        generalize k.argTypes.toList = ts
        match l, ts, hap2, hb2, hb3 with
        | [], _, _, _, _ => rfl
        | [x], _, _, _, _ => rfl
        | [x, y], [], _, _, _ => cases y <;> rfl
        | [x, y], [t], _, _, _ => cases y <;> rfl
        | [x, y], t :: t' :: t'' :: r, _, _, _ => cases y <;> rfl
        | [x, y], [t, t'], hap2, hb2, hb3 =>
          cases y <;> try rfl
          case row m f ys =>
            cases x with
            | gsl b n sz =>
              have e := hb3 b n sz _ rfl
              have e2 := hap2 b n sz _ rfl
              simp only [e, e2]
            | row _ full _ => cases full <;> rfl
            | slc b off n cap => have e := hb2 b off n cap _ rfl; simp only [e]
            | _ => rfl
        | x :: y :: z :: r, [], _, _, _ => cases y <;> rfl
        | x :: y :: z :: r, [t], _, _, _ => cases y <;> rfl
        | x :: y :: z :: r, [t, t'], _, _, _ => cases y <;> rfl
        | x :: y :: z :: r, t :: t' :: t'' :: r', _, _, _ => cases y <;> rfl
theorem guard_congr {ops : Array Oper} {o : Oper} {tmp tmp' : Nat → D} (h : ∀ j want t, o.guard = some (j, want) → (ops[j]?).bind (·.dst) = some t → tmp t = tmp' t) :
    guardSays ops o tmp = guardSays ops o tmp' := by
  unfold guardSays
  split
  · rfl
  · rename_i j want hg
    split
    · rename_i t ht
      rw [h j want t hg ht]
    · rfl
theorem eff_congr' {o : Oper} {ρ ρ' : Operand → D} {blk blk' : Nat → Option (List D)} {nst nst' : Nat → Bool} {nb : Nat} {ro fz : Bool} {gb : Nat} {E : Eff} {nd : Need} (hρ : ∀ x ∈ o.op.operands.toList, ρ x = ρ' x)
    (hb : ∀ b, accOf o ρ = some b → blk b = blk' b) (h : eff P o ρ blk nst nb ro gb fz = some (E, nd)) (hE : ∀ b cs d, E ≠ .grow b cs d) : eff P o ρ' blk' nst' nb ro gb fz = some (E, nd) := by
  rw [← h]
  refine (eff_congr hρ hb fun k b n sz rest ho hk hl => False.elim ?_).symm
  unfold eff at h
  simp only [ho, hk, hl] at h
  repeat' split at h
  all_goals first | (cases h; done) | skip
  all_goals (rename_i hx _; first | (simp only [Option.some.injEq, Prod.mk.injEq] at h; exact hE _ _ _ h.1.symm) | (simp at hx; done) | skip)
  all_goals first | (simp only [Option.some.injEq, Prod.mk.injEq] at h; exact hE _ _ _ h.1.symm) | skip
  all_goals first | (rename_i hl2 _ _ _; simp at hl2; done) | (simp_all; done)
/-- The same where the records of what may point into own blocks agree: then an append to a slice at the head of an own block, too. -/
theorem eff_congrN {o : Oper} {ρ ρ' : Operand → D} {blk blk' : Nat → Option (List D)} {nst nst' : Nat → Bool} {nb : Nat} {ro fz : Bool} {gb : Nat} (hρ : ∀ x ∈ o.op.operands.toList, ρ x = ρ' x)
    (hb : ∀ b, accOf o ρ = some b → blk b = blk' b) (hn : nst = nst') : eff P o ρ blk nst nb ro gb fz = eff P o ρ' blk' nst' nb ro gb fz :=
  eff_congr hρ hb fun _ b _ _ _ _ _ _ => by rw [hn]
theorem eff_call_acc {o : Oper} {ρ : Operand → D} {blk : Nat → Option (List D)} {nst : Nat → Bool} {nb : Nat} {ro fz : Bool} {gb : Nat} {f : FuncId} {args : List D} {nd : Need} (h : eff P o ρ blk nst nb ro gb fz = some (.call f args, nd))
    {b : Nat} {l : List Nat} (hl : args.flatMap D.refs = b :: l) : accOf o ρ = some b := by
  unfold eff at h
  repeat' split at h
  all_goals first | (cases h; done) | skip
  all_goals (simp only [Option.some.injEq, Prod.mk.injEq, Eff.call.injEq] at h)
  rename_i k hop _ x hk _ f' first caps hf
  obtain ⟨⟨rfl, rfl⟩, -⟩ := h
  obtain ⟨hx, -⟩ := callTarget_spec hf
  unfold accOf
  simp only [hop, hk]
  rcases hx with ⟨hx, rfl, rfl⟩ | hx
  · rw [hx]
    simp only [List.nil_append, List.append_nil] at hl ⊢
    rw [hl]; rfl
  · rw [hx]
    simp only at hl ⊢
    rw [List.append_assoc, hl]; rfl
theorem opRec_congr {inl : Inline P Good} {ops : Array Oper} {o : Oper} {ro : List Nat} {gb mx : Nat} {s s' : FSt} {blks : List (Option (List D))} {ns : List Nat} {tr tr' : List (Item P Good)} {R : Rec} {eqs : List (Got × Got)}
    (hg : ∀ j want t, o.guard = some (j, want) → (ops[j]?).bind (·.dst) = some t → s.tmp t = s'.tmp t)
    (hρ : ∀ x ∈ o.op.operands.toList, s.ev x = s'.ev x) (hb : ∀ b, accOf o s.ev = some b → s.blk b = s'.blk b)
    (h : opRec P inl ops o ro gb mx s blks ns tr = some (R, tr', eqs)) (hR : R.plain = true) : opRec P inl ops o ro gb mx s' blks ns tr = some (R, tr', eqs) := by
  rw [opRec_eq] at h ⊢
  rw [← guard_congr hg]
  split at h
  · rename_i hgd
    split at h
    · rename_i E nd hE
      split at h
      · rename_i tr1 eqs1 hn
        split at h
        · rename_i R2 tr2 eqs2 hm
          simp only [Option.some.injEq, Prod.mk.injEq] at h
          obtain ⟨rfl, rfl, rfl⟩ := h
          have hm' : meetEff inl mx s'.blk s'.nst blks ns o.dst E tr1 = some (R2, tr2, eqs2) := by
            cases E with
            | call f args =>
              simp only [meetEff] at hm ⊢
              split at hm
              · split at hm
                · split at hm
                  · simp only [Option.some.injEq, Prod.mk.injEq] at hm; obtain ⟨rfl, -, -⟩ := hm; cases hR
                  · cases hm
                · rename_i hown; rw [if_neg hown]; exact hm
              · exact hm
              · simp only [Option.some.injEq, Prod.mk.injEq] at hm; obtain ⟨rfl, -, -⟩ := hm; cases hR
              · split at hm
                · simp only [Option.some.injEq, Prod.mk.injEq] at hm; obtain ⟨rfl, -, -⟩ := hm; cases hR
                · cases hm
              · rename_i A tr3
                have hc := autoHide_congr (inl := inl) (A := A) (f := f) (args := args) (tr' := tr3) (blk := s.blk) (blk' := s'.blk) fun b l hl => hb b (eff_call_acc hE hl)
                split at hm
                · rename_i hown
                  rw [if_pos hown]
                  split at hm
                  · rename_i x hx
                    rw [hc] at hx
                    rw [hx]; exact hm
                  split at hm
                  · simp only [Option.some.injEq, Prod.mk.injEq] at hm; obtain ⟨rfl, -, -⟩ := hm; cases hR
                  split at hm
                  · split at hm
                    · simp only [Option.some.injEq, Prod.mk.injEq] at hm; obtain ⟨rfl, -, -⟩ := hm; cases hR
                    · cases hm
                  · obtain ⟨fn, d, blks', ns', q1, q2, rfl | ⟨rfl, -⟩⟩ := autoIn_some hm <;> cases hR
                · rename_i hown
                  rw [if_neg hown, ← hc]; exact hm
              · cases hm
            | val d => exact hm
            | new b cs d nf => exact hm
            | store b off ds d nf => exact hm
            | grow b cs d => exact hm
          have hng : ∀ b cs d, E ≠ .grow b cs d := by
            rintro b cs d rfl
            simp only [meetEff, Option.some.injEq, Prod.mk.injEq] at hm
            obtain ⟨rfl, -, -⟩ := hm; cases hR
          simp only [eff_congr' hρ hb hE hng, hn, hm']
        · cases h
      · cases h
    · cases h
  · exact h
  · cases h

/-- The same where the own blocks are the same: then calls may lean on them. -/
def Rec.isVal : Rec → Bool
  | .val _ => true
  | .new _ _ _ _ => false
  | .store _ _ _ _ _ => false
  | .grow _ _ _ => false
  | .own _ => true
  | .inl _ _ _ => false
theorem opRec_congrV {inl : Inline P Good} {ops : Array Oper} {o : Oper} {ro : List Nat} {gb mx : Nat} {s s' : FSt} {blks : List (Option (List D))} {ns : List Nat} {tr tr' : List (Item P Good)} {R : Rec} {eqs : List (Got × Got)}
    (hg : ∀ j want t, o.guard = some (j, want) → (ops[j]?).bind (·.dst) = some t → s.tmp t = s'.tmp t)
    (hρ : ∀ x ∈ o.op.operands.toList, s.ev x = s'.ev x) (hb : s.blk = s'.blk) (hns : s.nst = s'.nst)
    (h : opRec P inl ops o ro gb mx s blks ns tr = some (R, tr', eqs)) (hR : R.isVal = true) : opRec P inl ops o ro gb mx s' blks ns tr = some (R, tr', eqs) := by
  rw [opRec_eq] at h ⊢
  rw [← guard_congr hg]
  split at h
  · split at h
    · rename_i E nd hE
      split at h
      · rename_i tr1 eqs1 hn
        split at h
        · rename_i R2 tr2 eqs2 hm
          simp only [Option.some.injEq, Prod.mk.injEq] at h
          obtain ⟨rfl, rfl, rfl⟩ := h
          have hng : ∀ b cs d, E ≠ .grow b cs d := by
            rintro b cs d rfl
            simp only [meetEff, Option.some.injEq, Prod.mk.injEq] at hm
            obtain ⟨rfl, -, -⟩ := hm; cases hR
          have hE' := eff_congr' (nst' := s'.nst) hρ (fun b _ => congrFun hb b) hE hng
          rw [hb, hns] at hm
          simp only [hE', hn, hm]
        · cases h
      · cases h
    · cases h
  · exact h
  · cases h

theorem opRec_congrG {inl : Inline P Good} {ops : Array Oper} {o : Oper} {ro : List Nat} {gb mx : Nat} {s s' : FSt} {blks : List (Option (List D))} {ns : List Nat} {tr tr' : List (Item P Good)} {b : Nat} {cs : List D} {d : D} {eqs : List (Got × Got)}
    (hg : ∀ j want t, o.guard = some (j, want) → (ops[j]?).bind (·.dst) = some t → s.tmp t = s'.tmp t)
    (hρ : ∀ x ∈ o.op.operands.toList, s.ev x = s'.ev x) (hb : ∀ b, accOf o s.ev = some b → s.blk b = s'.blk b) (hns : s.nst = s'.nst)
    (h : opRec P inl ops o ro gb mx s blks ns tr = some (.grow b cs d, tr', eqs)) : opRec P inl ops o ro gb mx s' blks ns tr = some (.grow b cs d, tr', eqs) := by
  rw [opRec_eq] at h ⊢
  rw [← guard_congr hg]
  split at h
  · split at h
    · rename_i E nd hE
      split at h
      · rename_i tr1 eqs1 hn
        split at h
        · rename_i R2 tr2 eqs2 hm
          simp only [Option.some.injEq, Prod.mk.injEq] at h
          obtain ⟨rfl, rfl, rfl⟩ := h
          rw [eff_congrN hρ hb hns] at hE
          have hg : ∃ b cs d, E = .grow b cs d := by
            cases E with
            | grow b cs d => exact ⟨b, cs, d, rfl⟩
            | val d' =>
              simp only [meetEff] at hm
              generalize rewr o.dst d' tr1 = q at hm
              obtain ⟨q1, q2, q3⟩ := q
              cases hm
            | new b' cs' d' nf => simp only [meetEff] at hm; cases hm
            | store b' off ds d' nf => simp only [meetEff] at hm; cases hm
            | call f args =>
              exfalso
              simp only [meetEff] at hm
              split at hm
              · split at hm
                · split at hm
                  · cases hm
                  · cases hm
                · cases hm
              · split at hm
                · cases hm
                · cases hm
              · cases hm
              · split at hm
                · cases hm
                · cases hm
              · split at hm
                · split at hm
                  · rename_i hx; simp only [Option.some.injEq] at hm; subst hm; obtain ⟨_, _, _, _, _, _, _, _, _, _, q⟩ := autoHide_some hx; cases q
                  split at hm
                  · cases hm
                  split at hm
                  · split at hm
                    · cases hm
                    · cases hm
                  · obtain ⟨_, _, _, _, _, _, q | ⟨q, -⟩⟩ := autoIn_some hm <;> cases q
                · split at hm
                  · cases hm
                  split at hm
                  · rename_i hx; simp only [Option.some.injEq] at hm; subst hm; obtain ⟨_, _, _, _, _, _, hx2⟩ := autoHideN_some hx; obtain ⟨_, _, _, _, _, _, q, _⟩ := newR_some hx2; cases q
                  split at hm
                  · rename_i hx; simp only [Option.some.injEq] at hm; subst hm; obtain ⟨_, _, _, _, _, _, _, _, _, _, q⟩ := autoHide_some hx; cases q
                  · obtain ⟨_, _, _, _, _, _, q | ⟨q, -⟩⟩ := autoIn_some hm <;> cases q
              · cases hm
          obtain ⟨b1, cs1, d1, rfl⟩ := hg
          simp only [meetEff] at hm
          simp only [hE, hn, meetEff, hm]
        · cases h
      · cases h
    · cases h
  · simp only [Option.some.injEq, Prod.mk.injEq] at h; cases h.1
  · cases h

/-! ### Ancestors. -/
def depsOf (o : Oper) : List Nat := (o.after.toList.filter fun e => Region.binds .any e).map (·.on)
def ancOf (acc : List Nat) (ds : List Nat) : Nat := ds.foldl (fun s d => s ||| (2 ^ d ||| acc.getD d 0)) 0
def ancs : List Oper → List Nat → List Nat
  | [], acc => acc
  | o :: rest, acc => ancs rest (acc ++ [ancOf acc (depsOf o)])

theorem ancOf_bit (acc : List Nat) : ∀ (ds : List Nat) (z k : Nat), (ds.foldl (fun s d => s ||| (2 ^ d ||| acc.getD d 0)) z).testBit k = true → z.testBit k = true ∨ ∃ d ∈ ds, k = d ∨ (acc.getD d 0).testBit k = true
  | [], z, k, h => .inl h
  | d :: ds, z, k, h => by
    rcases ancOf_bit acc ds _ k h with h1 | ⟨e, he, h2⟩
    · rw [Nat.testBit_or, Nat.testBit_or, Bool.or_eq_true, Bool.or_eq_true] at h1
      rcases h1 with h1 | h1 | h1
      · exact .inl h1
      · rw [Nat.testBit_two_pow] at h1
        exact .inr ⟨d, by simp, .inl (by simpa using h1 : d = k).symm⟩
      · exact .inr ⟨d, by simp, .inr h1⟩
    · exact .inr ⟨e, by simp [he], h2⟩
/-- What every list of ancestors says. -/
def AncOk (l : List Oper) (acc : List Nat) : Prop :=
  acc.length ≤ l.length ∧ ∀ i (h : i < acc.length) (h' : i < l.length) k, (acc.getD i 0).testBit k = true → ∃ d ∈ depsOf l[i], k = d ∨ (d < i ∧ (acc.getD d 0).testBit k = true)
theorem ancs_ok (l : List Oper) : ∀ (rest : List Oper) (pre : List Oper) (acc : List Nat), l = pre ++ rest → acc.length = pre.length → AncOk l acc → (∀ i (h : i < l.length), ∀ d ∈ depsOf l[i], d < i) →
    AncOk l (ancs rest acc) ∧ (ancs rest acc).length = l.length
  | [], pre, acc, hl, hlen, hok, _ => ⟨hok, by rw [hl]; simpa [ancs] using hlen⟩
  | o :: rest, pre, acc, hl, hlen, hok, ht => by
    have hi : acc.length < l.length := by rw [hl, hlen]; simp
    have ho : l[acc.length] = o := by simp [hl, hlen]
    refine ancs_ok l rest (pre ++ [o]) _ (by rw [hl]; simp) (by simp [hlen]) ⟨by simp; omega, fun i h h' k hk => ?_⟩ ht
    have get : ∀ d, d < acc.length → (acc ++ [ancOf acc (depsOf o)]).getD d 0 = acc.getD d 0 := fun d hd => by simp [List.getD_eq_getElem?_getD, List.getElem?_append_left hd]
    by_cases hlt : i < acc.length
    · rw [get i hlt] at hk
      obtain ⟨d, hd, h1⟩ := hok.2 i hlt h' k hk
      refine ⟨d, hd, ?_⟩
      rcases h1 with h1 | ⟨h1, h2⟩
      · exact .inl h1
      · exact .inr ⟨h1, by rw [get d (by omega)]; exact h2⟩
    · have : i = acc.length := by simp at h; omega
      subst this
      have hg : (acc ++ [ancOf acc (depsOf o)]).getD acc.length 0 = ancOf acc (depsOf o) := by simp [List.getD_eq_getElem?_getD]
      rw [hg] at hk
      rcases ancOf_bit acc _ 0 k hk with h1 | ⟨d, hd, h1⟩
      · simp at h1
      · rw [ho]
        refine ⟨d, hd, ?_⟩
        rcases h1 with h1 | h1
        · exact .inl h1
        · have hdl := ht acc.length hi d (by rw [ho]; exact hd)
          exact .inr ⟨hdl, by rw [get d hdl]; exact h1⟩

/-- Closed under the edges: then closed under ancestors. -/
theorem anc_closed {l : List Oper} {acc : List Nat} (hok : AncOk l acc) (hlen : acc.length = l.length) {L : Nat → Bool} (hcl : ∀ j (h : j < l.length), L j = true → ∀ d ∈ depsOf l[j], L d = true)  : ∀ i (h : i < l.length), (∀ d ∈ depsOf l[i], L d = true) → ∀ k, (acc.getD i 0).testBit k = true → L k = true := by
  intro i
  induction i using Nat.strongRecOn with
  | _ i ih =>
    intro h hr k hk
    obtain ⟨d, hd, h1⟩ := hok.2 i (by omega) h k hk
    rcases h1 with h1 | ⟨h1, h2⟩
    · rw [h1]; exact hr d hd
    · exact ih d h1 (by omega) (hcl d (by omega) (hr d hd)) k h2

/-! ### The frame when some have been carried out. -/
def Rec.isNew : Rec → Nat → Bool
  | .new b' _ _ _, b => b' == b
  | .val _, _ => false
  | .store _ _ _ _ _, _ => false
  | .grow _ _ _, _ => false
  | .own _, _ => false
  | .inl _ _ _, _ => false
def Rec.isStore : Rec → Nat → Bool
  | .store b' _ _ _ _, b => b' == b
  | .val _, _ => false
  | .new _ _ _ _, _ => false
  | .grow _ _ _, _ => false
  | .own _, _ => false
  | .inl _ _ _, _ => false
def Rec.nests : Rec → Nat → Bool
  | .new b' _ _ nf, b => nf && (b == b')
  | .store b' _ _ _ nf, b => nf && (b == b')
  | _, _ => false
def Rec.cs : Rec → List D
  | .new _ cs _ _ => cs
  | _ => []
def Rec.stored : Rec → List D → List D
  | .store _ off ds _ _, cs => splice cs off ds
  | _, cs => cs
def sL (s0 : FSt) (n m : Nat) (dst : Nat → Option Tmp) (R : Nat → Rec) (L : Nat → Bool) : FSt where
  tmp := fun t => match (List.range m).find? (fun j => L j && (dst j == some t && Nat.blt t n)) with
    | some j => (R j).put
    | none => s0.tmp t
  blk := fun b =>
    let base := match (List.range m).find? (fun j => L j && (R j).isNew b) with
      | some j => some (R j).cs
      | none => s0.blk b
    (List.range m).foldl (fun c j => if L j && (R j).isStore b then c.map (R j).stored else c) base
  nst := fun b => s0.nst b || (List.range m).any fun j => L j && (R j).nests b
theorem any_more {m i : Nat} {L p : Nat → Bool} (hi : i < m) : ((List.range m).any fun j => (L j || j == i) && p j) = (((List.range m).any fun j => L j && p j) || p i) := by
  rw [Bool.eq_iff_iff, Bool.or_eq_true, List.any_eq_true, List.any_eq_true]
  constructor
  · rintro ⟨j, hj, h⟩
    rw [Bool.and_eq_true, Bool.or_eq_true] at h
    rcases h with ⟨h1 | h1, h2⟩
    · exact .inl ⟨j, hj, by rw [h1, h2]; rfl⟩
    · rw [beq_iff_eq] at h1; subst h1; exact .inr h2
  · rintro (⟨j, hj, h⟩ | h)
    · rw [Bool.and_eq_true] at h
      exact ⟨j, hj, by rw [h.1, h.2]; rfl⟩
    · exact ⟨i, by simpa using hi, by rw [h]; simp⟩
theorem any_congr {m : Nat} {p q : Nat → Bool} (h : ∀ j, j < m → p j = q j) : (List.range m).any p = (List.range m).any q := by
  rw [Bool.eq_iff_iff, List.any_eq_true, List.any_eq_true]
  constructor
  · rintro ⟨j, hj, e⟩; exact ⟨j, hj, by rw [← h j (by simpa using hj)]; exact e⟩
  · rintro ⟨j, hj, e⟩; exact ⟨j, hj, by rw [h j (by simpa using hj)]; exact e⟩

theorem find_uniq {m : Nat} {p : Nat → Bool} {i : Nat} (hi : i < m) (hp : p i = true) (hu : ∀ j, j < m → p j = true → j = i) : (List.range m).find? p = some i := by
  cases h : (List.range m).find? p with
  | none =>
    have := List.find?_eq_none.1 h i (by simpa using hi)
    exact absurd hp this
  | some j =>
    have h1 := List.mem_of_find?_eq_some h
    have h2 := List.find?_some h
    rw [hu j (by simpa using h1) h2]
theorem find_none {m : Nat} {p : Nat → Bool} (h : ∀ j, j < m → p j = false) : (List.range m).find? p = none := by
  rw [List.find?_eq_none]
  intro x hx
  rw [h x (by simpa using hx)]; simp
theorem find_congr {m : Nat} {p q : Nat → Bool} (h : ∀ j, j < m → p j = q j) : (List.range m).find? p = (List.range m).find? q := by
  have : ∀ l : List Nat, (∀ j ∈ l, p j = q j) → l.find? p = l.find? q := by
    intro l hl
    induction l with
    | nil => rfl
    | cons x l ih => simp only [List.find?_cons, hl x (by simp), ih (fun j hj => hl j (by simp [hj]))]
  exact this _ fun j hj => h j (by simpa using hj)

theorem fold_congr {α : Type} {m : Nat} {p q : Nat → Bool} {f : Nat → α → α} {x : α} (h : ∀ j, j < m → p j = q j) :
    (List.range m).foldl (fun c j => if p j then f j c else c) x = (List.range m).foldl (fun c j => if q j then f j c else c) x := by
  induction m with
  | zero => rfl
  | succ m ih =>
    rw [List.range_succ, List.foldl_append, List.foldl_append, ih fun j hj => h j (by omega)]
    simp only [List.foldl_cons, List.foldl_nil, h m (by omega)]
theorem fold_none {α : Type} {m : Nat} {p : Nat → Bool} {f : Nat → α → α} {x : α} (h : ∀ j, j < m → p j = false) : (List.range m).foldl (fun c j => if p j then f j c else c) x = x := by
  induction m with
  | zero => rfl
  | succ m ih =>
    rw [List.range_succ, List.foldl_append, ih fun j hj => h j (by omega)]
    simp only [List.foldl_cons, List.foldl_nil, h m (by omega)]
    rfl
theorem fold_last {α : Type} {m i : Nat} {p q : Nat → Bool} {f : Nat → α → α} {x : α} (hi : i < m) (hp : p i = false) (hlow : ∀ j, j < m → p j = true → j < i) (hq : ∀ j, q j = (p j || j == i)) :
    (List.range m).foldl (fun c j => if q j then f j c else c) x = f i ((List.range m).foldl (fun c j => if p j then f j c else c) x) := by
  induction m with
  | zero => omega
  | succ m ih =>
    rw [List.range_succ, List.foldl_append, List.foldl_append]
    simp only [List.foldl_cons, List.foldl_nil]
    rcases Nat.lt_or_ge i m with h | h
    · rw [ih h fun j hj hpj => hlow j (by omega) hpj]
      have h1 : p m = false := by
        cases hh : p m with
        | false => rfl
        | true => have := hlow m (by omega) hh; omega
      have h2 : q m = false := by
        rw [hq, h1]
        have : (m == i) = false := by rw [beq_eq_false_iff_ne]; omega
        rw [this]; rfl
      rw [h1, h2]; rfl
    · have : i = m := by omega
      subst this
      have h2 : q i = true := by rw [hq]; simp
      rw [h2, hp]
      have : (List.range i).foldl (fun c j => if q j then f j c else c) x = (List.range i).foldl (fun c j => if p j then f j c else c) x := fold_congr fun j hj => by
        rw [hq]
        have : (j == i) = false := by rw [beq_eq_false_iff_ne]; omega
        rw [this, Bool.or_false]
      rw [this]; rfl
theorem fold_nothing {m : Nat} {p : Nat → Bool} {f : Nat → List D → List D} : (List.range m).foldl (fun c j => if p j then Option.map (f j) c else c) none = none := by
  induction m with
  | zero => rfl
  | succ m ih =>
    rw [List.range_succ, List.foldl_append, ih]
    simp only [List.foldl_cons, List.foldl_nil, Option.map_none]
    split <;> rfl

/-- The conditions. -/
structure DrawOk (s0 : FSt) (m : Nat) (dst : Nat → Option Tmp) (reads : Nat → Tmp → Bool) (R : Nat → Rec) (acc : Nat → Option Nat) (anc : Nat → Nat → Bool) : Prop where
  cDst : ∀ i j t, i < m → j < m → dst i = some t → dst j = some t → i = j
  cStore : ∀ i j b, i < m → j < m → (R i).isStore b = true → (R j).isStore b = true → i = j ∨ (anc i j = true ∧ j < i) ∨ (anc j i = true ∧ i < j)
  cNew : ∀ i j b, i < m → j < m → (R i).isNew b = true → (R j).isNew b = true → i = j
  cFresh : ∀ i b, i < m → (R i).isNew b = true → s0.blk b = none
  cReads : ∀ i j t, i < m → j < m → reads i t = true → dst j = some t → j = i ∨ anc i j = true ∨ anc j i = true
  cStores : ∀ i j b, i < m → j < m → acc i = some b → (R j).isStore b = true → j = i ∨ anc i j = true ∨ anc j i = true
  cNews : ∀ i j b, i < m → j < m → acc i = some b → (R j).isNew b = true → anc i j = true
  cOwn : ∀ i b, i < m → (R i).isStore b = true → acc i = some b
  cPlain : ∀ i, i < m → (R i).plain = true

section step
variable {s0 : FSt} {n m : Nat} {dst : Nat → Option Tmp} {reads : Nat → Tmp → Bool} {R : Nat → Rec} {acc : Nat → Option Nat} {anc : Nat → Nat → Bool}

/-- One more. -/
theorem sL_app (ok : DrawOk s0 m dst reads R acc anc) {L : Nat → Bool} {i : Nat} (hi : i < m) (hL : L i = false) (hcl : ∀ j, j < m → L j = true → ∀ k, anc j k = true → L k = true) :
    (sL s0 n m dst R L).app n (dst i) (R i) = sL s0 n m dst R (fun j => L j || j == i) := by
  have htmp : ∀ t, (sL s0 n m dst R (fun j => L j || j == i)).tmp t = if dst i = some t ∧ t < n then (R i).put else (sL s0 n m dst R L).tmp t := by
    intro t
    simp only [sL]
    by_cases hc : dst i = some t ∧ t < n
    · have hf : (List.range m).find? (fun j => (L j || j == i) && (dst j == some t && Nat.blt t n)) = some i := find_uniq hi (by simp [hc.1, hc.2]) (fun j hj hp => by
        simp only [Bool.and_eq_true, beq_iff_eq] at hp
        exact (ok.cDst i j t hi hj hc.1 hp.2.1).symm)
      rw [if_pos hc, hf]
    · rw [if_neg hc]
      congr 1
      refine find_congr fun j hj => ?_
      by_cases hji : j = i
      · subst hji
        have : (dst j == some t && Nat.blt t n) = false := by
          rw [Bool.and_eq_false_iff]
          by_cases h1 : dst j = some t
          · right
            have h2 : ¬ t < n := fun h2 => hc ⟨h1, h2⟩
            cases hb : Nat.blt t n with
            | false => rfl
            | true => rw [Nat.blt_eq] at hb; exact absurd hb h2
          · left; simpa using h1
        rw [this]; simp
      · have h9 : (j == i) = false := by simpa using hji
        simp only [h9, Bool.or_false]
  have hblk : ∀ b, (R i).isNew b = false → (R i).isStore b = false → (sL s0 n m dst R (fun j => L j || j == i)).blk b = (sL s0 n m dst R L).blk b := by
    intro b h1 h2
    simp only [sL]
    have e1 : (List.range m).find? (fun j => (L j || j == i) && (R j).isNew b) = (List.range m).find? (fun j => L j && (R j).isNew b) := find_congr fun j hj => by
      by_cases hji : j = i
      · subst hji; rw [h1]; simp
      · have h9 : (j == i) = false := by simpa using hji
        simp only [h9, Bool.or_false]
    rw [e1]
    exact fold_congr fun j hj => by
      by_cases hji : j = i
      · subst hji; rw [h2]; simp
      · have h9 : (j == i) = false := by simpa using hji
        simp only [h9, Bool.or_false]
  have hnst : ∀ b, (sL s0 n m dst R (fun j => L j || j == i)).nst b = ((sL s0 n m dst R L).nst b || (R i).nests b) := by
    intro b
    simp only [sL]
    rw [any_more hi, Bool.or_assoc]
  cases hR : R i with
  | grow b cs d => have := ok.cPlain i hi; rw [hR] at this; cases this
  | own d => have := ok.cPlain i hi; rw [hR] at this; cases this
  | inl bl nl d => have := ok.cPlain i hi; rw [hR] at this; cases this
  | val d =>
    have h1 : ∀ b, (R i).isNew b = false := fun b => by rw [hR]; rfl
    have h2 : ∀ b, (R i).isStore b = false := fun b => by rw [hR]; rfl
    have : (sL s0 n m dst R (fun j => L j || j == i)) = ⟨(sL s0 n m dst R (fun j => L j || j == i)).tmp, (sL s0 n m dst R (fun j => L j || j == i)).blk, (sL s0 n m dst R (fun j => L j || j == i)).nst⟩ := rfl
    rw [this]
    simp only [FSt.app, FSt.put]
    congr 1
    · funext t; rw [htmp t, hR]; rfl
    · funext b; rw [hblk b (h1 b) (h2 b)]
    · funext b; rw [hnst b, hR]; simp [Rec.nests]
  | new b0 cs d nf =>
    have hnost : ∀ j, j < m → (L j || j == i) = true → (R j).isStore b0 = false := by
      intro j hj hLj
      cases hs : (R j).isStore b0 with
      | false => rfl
      | true =>
        have ha := ok.cOwn j b0 hj hs
        have hanc := ok.cNews j i b0 hj hi ha (by rw [hR]; simp [Rec.isNew])
        by_cases hji : j = i
        · subst hji; rw [hR] at hs; simp [Rec.isStore] at hs
        · have hLj' : L j = true := by simpa [hji] using hLj
          have := hcl j hj hLj' i hanc
          rw [hL] at this; cases this
    have : (sL s0 n m dst R (fun j => L j || j == i)) = ⟨(sL s0 n m dst R (fun j => L j || j == i)).tmp, (sL s0 n m dst R (fun j => L j || j == i)).blk, (sL s0 n m dst R (fun j => L j || j == i)).nst⟩ := rfl
    rw [this]
    simp only [FSt.app, FSt.put, FSt.setBlk]
    congr 1
    · funext t; rw [htmp t, hR]; rfl
    · funext b
      by_cases hb : b = b0
      · subst hb
        rw [if_pos rfl]
        have hf : (List.range m).find? (fun j => (L j || j == i) && (R j).isNew b) = some i := find_uniq hi (by simp [hR, Rec.isNew]) (fun j hj hp => by
          simp only [Bool.and_eq_true] at hp
          exact (ok.cNew i j b hi hj (by rw [hR]; simp [Rec.isNew]) hp.2).symm)
        simp only [sL, hf, hR]
        rw [fold_none (fun j hj => by
            cases hq : (L j || j == i) with
            | false => rfl
            | true => simp [hnost j hj hq])]
        rfl
      · rw [if_neg hb, hblk b (by rw [hR]; simp [Rec.isNew, Ne.symm hb]) (by rw [hR]; rfl)]
    · funext b; rw [hnst b, hR]; rfl
  | store b0 off ds d nf =>
    have : (sL s0 n m dst R (fun j => L j || j == i)) = ⟨(sL s0 n m dst R (fun j => L j || j == i)).tmp, (sL s0 n m dst R (fun j => L j || j == i)).blk, (sL s0 n m dst R (fun j => L j || j == i)).nst⟩ := rfl
    rw [this]
    simp only [FSt.app, FSt.put, FSt.setBlk]
    congr 1
    · funext t; rw [htmp t, hR]; rfl
    · funext b
      by_cases hb : b = b0
      · subst hb
        rw [if_pos rfl]
        have hlow : ∀ j, j < m → (L j && (R j).isStore b) = true → j < i := by
          intro j hj hp
          rw [Bool.and_eq_true] at hp
          rcases ok.cStore i j b hi hj (by rw [hR]; simp [Rec.isStore]) hp.2 with e | ⟨-, e⟩ | ⟨e, -⟩
          · subst e; rw [hL] at hp; cases hp.1
          · exact e
          · have := hcl j hj hp.1 i e
            rw [hL] at this; cases this
        have e1 : (List.range m).find? (fun j => (L j || j == i) && (R j).isNew b) = (List.range m).find? (fun j => L j && (R j).isNew b) := find_congr fun j hj => by
          by_cases hji : j = i
          · subst hji; rw [hR]; simp [Rec.isNew]
          · have h9 : (j == i) = false := by simpa using hji
            simp only [h9, Bool.or_false]
        simp only [sL, e1]
        rw [fold_last (p := fun j => L j && (R j).isStore b) (q := fun j => (L j || j == i) && (R j).isStore b) (f := fun j c => Option.map (R j).stored c) hi (by simp [hL]) hlow (fun j => by
          by_cases hji : j = i
          · subst hji; rw [hR]; simp [Rec.isStore]
          · have h9 : (j == i) = false := by simpa using hji
            simp only [h9, Bool.or_false])]
        rw [hR]; rfl
      · rw [if_neg hb, hblk b (by rw [hR]; rfl) (by rw [hR]; simp [Rec.isStore, Ne.symm hb])]
    · funext b; rw [hnst b, hR]; rfl

/-- What an operation looks at is the same, whoever else has been carried out, if all that it waits for has been. -/
theorem sL_tmp (ok : DrawOk s0 m dst reads R acc anc) {L L' : Nat → Bool} {i : Nat} (hi : i < m) (hL : L i = false) (hL' : L' i = false)
    (hr : ∀ k, anc i k = true → L k = true) (hr' : ∀ k, anc i k = true → L' k = true)
    (hcl : ∀ j, j < m → L j = true → ∀ k, anc j k = true → L k = true) (hcl' : ∀ j, j < m → L' j = true → ∀ k, anc j k = true → L' k = true) {t : Tmp} (ht : reads i t = true) :
    (sL s0 n m dst R L).tmp t = (sL s0 n m dst R L').tmp t := by
  simp only [sL]
  congr 1
  refine find_congr fun j hj => ?_
  by_cases hd : dst j = some t
  · rcases ok.cReads i j t hi hj ht hd with rfl | h | h
    · rw [hL, hL']
    · rw [hr j h, hr' j h]
    · have h1 : L j = false := by
        cases hq : L j with
        | false => rfl
        | true => have := hcl j hj hq i h; rw [hL] at this; cases this
      have h2 : L' j = false := by
        cases hq : L' j with
        | false => rfl
        | true => have := hcl' j hj hq i h; rw [hL'] at this; cases this
      rw [h1, h2]
  · have : (dst j == some t) = false := by simpa using hd
    rw [this]; simp
theorem sL_blk (ok : DrawOk s0 m dst reads R acc anc) {L L' : Nat → Bool} {i : Nat} (hi : i < m) (hL : L i = false) (hL' : L' i = false)
    (hr : ∀ k, anc i k = true → L k = true) (hr' : ∀ k, anc i k = true → L' k = true)
    (hcl : ∀ j, j < m → L j = true → ∀ k, anc j k = true → L k = true) (hcl' : ∀ j, j < m → L' j = true → ∀ k, anc j k = true → L' k = true) {b : Nat} (hb : acc i = some b) :
    (sL s0 n m dst R L).blk b = (sL s0 n m dst R L').blk b := by
  have e1 : (List.range m).find? (fun j => L j && (R j).isNew b) = (List.range m).find? (fun j => L' j && (R j).isNew b) := find_congr fun j hj => by
    cases hq : (R j).isNew b with
    | false => simp
    | true => have := ok.cNews i j b hi hj hb hq; rw [hr j this, hr' j this]
  simp only [sL]
  rw [e1]
  exact fold_congr fun j hj => by
    cases hq : (R j).isStore b with
    | false => simp
    | true =>
      rcases ok.cStores i j b hi hj hb hq with rfl | h | h
      · rw [hL, hL']
      · rw [hr j h, hr' j h]
      · have h1 : L j = false := by
          cases hq : L j with
          | false => rfl
          | true => have := hcl j hj hq i h; rw [hL] at this; cases this
        have h2 : L' j = false := by
          cases hq : L' j with
          | false => rfl
          | true => have := hcl' j hj hq i h; rw [hL'] at this; cases this
        rw [h1, h2]
theorem sL_fresh (ok : DrawOk s0 m dst reads R acc anc) {L : Nat → Bool} {i b : Nat} (hi : i < m) (hL : L i = false) (hb : (R i).isNew b = true) : (sL s0 n m dst R L).blk b = none := by
  have e1 : (List.range m).find? (fun j => L j && (R j).isNew b) = none := find_none fun j hj => by
    cases hq : (R j).isNew b with
    | false => simp
    | true => have := ok.cNew j i b hj hi hq hb; subst this; rw [hL]; rfl
  simp only [sL]
  rw [e1, ok.cFresh i b hi hb]
  exact fold_nothing
end step
end Lw
