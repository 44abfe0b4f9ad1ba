/- 'eff' tells the truth, all operations together. No condition. -/
import Derived.Test.YtfdllnbmjlhliaaGreatDoorLwD
namespace Lw
open Go Go.RowKit

variable {c : Ctx} {n : Nat} {s : FS} {a : Act} {w : World} {β : Nat → Nat} {X : Nat → Prop}

theorem callTarget_spec {P : Program} {d : D} {f : FuncId} (h : callTarget P d = some f) :
    d = .lit (.func (.func f) #[] #[]) ∧ ∃ fn, P.funcs[f]? = some fn ∧ fn.body.isSome = true ∧ (fn.name == "runtime.NumGoroutine") = false := by
  unfold callTarget at h
  split at h
  · split at h
    · rename_i fn hf
      split at h
      · rename_i hc
        simp only [Option.some.injEq] at h
        subst h
        simp only [Bool.and_eq_true, Bool.not_eq_true', beq_iff_eq] at hc
        rw [Array.eq_empty_of_size_eq_zero hc.1.1, Array.eq_empty_of_size_eq_zero hc.1.2]
        exact ⟨rfl, fn, hf, hc.2.1, hc.2.2⟩
      · cases h
    · cases h
  · cases h

theorem eff_sound (h : RelB c n s a w β X) {o : Oper} {nb : Nat} {ro : Bool} {gb : Nat} (hgb : c.gb ≤ gb) {E : Eff} {nd : Need} (he : eff c.P o s.ev s.blk nb ro gb = some (E, nd)) (hn : nd.ok) :
    EffOk c n s a w β X nb o E := by
  unfold eff at he
  split at he
  case h_1 x ho => simp only [Option.some.injEq, Prod.mk.injEq] at he; obtain ⟨rfl, rfl⟩ := he; exact ok_move h (.inl ho)
  case h_2 x ho => simp only [Option.some.injEq, Prod.mk.injEq] at he; obtain ⟨rfl, rfl⟩ := he; exact ok_move h (.inr ho)
  case h_3 k x y ho =>
    split at he
    · rename_i hk; simp only [Option.some.injEq, Prod.mk.injEq] at he; obtain ⟨rfl, rfl⟩ := he; exact ok_pick h ho true hk
    · rename_i hk; simp only [Option.some.injEq, Prod.mk.injEq] at he; obtain ⟨rfl, rfl⟩ := he; exact ok_pick h ho false hk
    · cases he
  case h_4 el ho =>
    split at he
    · rename_i zs hz
      have := ok_alloc h (nb := nb) (ro := ro) ho hz
      split at he <;> simp only [Option.some.injEq, Prod.mk.injEq] at he <;> obtain ⟨rfl, rfl⟩ := he <;> simp_all
    · cases he
  case h_5 el x ho =>
    split at he
    · rename_i cs hc
      have := ok_box h (nb := nb) (ro := ro) ho hc
      split at he <;> simp only [Option.some.injEq, Prod.mk.injEq] at he <;> obtain ⟨rfl, rfl⟩ := he <;> simp_all
    · cases he
  case h_6 t parts ho =>
    split at he
    · rename_i cs hc; simp only [Option.some.injEq, Prod.mk.injEq] at he; obtain ⟨rfl, rfl⟩ := he; exact ok_build h ho hc
    · cases he
  case h_7 t len parts ho =>
    split at he
    · rename_i cs hc; simp only [Option.some.injEq, Prod.mk.injEq] at he; obtain ⟨rfl, rfl⟩ := he; exact ok_buildSlice h ho hc
    · cases he
  case h_8 t x ho =>
    split at he
    · rename_i sz ag hs ha
      split at he
      · rename_i cs hx; simp only [Option.some.injEq, Prod.mk.injEq] at he; obtain ⟨rfl, rfl⟩ := he
        simp only [need_ok] at hn; exact ok_load_rptr h ho hs ha hx hn.1 hn.2
      · rename_i b off hx
        split at he
        · rename_i cs hb; simp only [Option.some.injEq, Prod.mk.injEq] at he; obtain ⟨rfl, rfl⟩ := he
          simp only [need_ok] at hn; exact ok_load_ptr h ho hs ha hx hb hn.1 hn.2
        · cases he
      · cases he
    · cases he
  case h_9 t x y ho =>
    split at he
    · rename_i b off ds sz hx hy hs
      split at he
      · rename_i cs hb
        split at he
        · rename_i hc; simp only [Option.some.injEq, Prod.mk.injEq] at he; obtain ⟨rfl, rfl⟩ := he
          simp only [Bool.and_eq_true, beq_iff_eq] at hc
          simp only [need_ok] at hn; exact ok_store h ho hs hx hy hb hc.1 hc.2 hn
        · cases he
      · cases he
    · cases he
  case h_10 op t x y u ho =>
    split at he
    · rename_i k p k' q hx hy
      split at he
      · split at he
        · rename_i hk; subst hk; simp only [Option.some.injEq, Prod.mk.injEq] at he; obtain ⟨rfl, rfl⟩ := he
          simp only [need_ok] at hn; exact ok_quo h ho hx hy hn
        · cases he
      · split at he
        · rename_i hk; subst hk; simp only [Option.some.injEq, Prod.mk.injEq] at he; obtain ⟨rfl, rfl⟩ := he
          simp only [need_ok] at hn; exact ok_rem h ho hx hy hn
        · cases he
      · simp only [Option.some.injEq, Prod.mk.injEq] at he; obtain ⟨rfl, rfl⟩ := he
        simp only [need_ok] at hn; exact ok_shl h ho hx hy hn
      · simp only [Option.some.injEq, Prod.mk.injEq] at he; obtain ⟨rfl, rfl⟩ := he
        simp only [need_ok] at hn; exact ok_shr h ho hx hy hn
      · split at he
        · rename_i v hv; simp only [Option.some.injEq, Prod.mk.injEq] at he; obtain ⟨rfl, rfl⟩ := he; exact ok_binOp h ho hx hy hv
        · cases he
    · rename_i va vb _ hx hy
      split at he
      · rename_i v hv; simp only [Option.some.injEq, Prod.mk.injEq] at he; obtain ⟨rfl, rfl⟩ := he; exact ok_binOp h ho hx hy hv
      · cases he
    · cases he
  case h_11 op t x ho =>
    split at he
    · rename_i va hx
      split at he
      · rename_i v hv; simp only [Option.some.injEq, Prod.mk.injEq] at he; obtain ⟨rfl, rfl⟩ := he; exact ok_unOp h ho hx hv
      · cases he
    · cases he
  case h_12 t u x ho =>
    split at he
    · rename_i va hx
      split at he
      · rename_i v hv; simp only [Option.some.injEq, Prod.mk.injEq] at he; obtain ⟨rfl, rfl⟩ := he; exact ok_convert h ho hx hv
      · cases he
    · cases he
  case h_13 t x ho =>
    split at he
    · rename_i va hx
      split at he
      · rename_i v hv; simp only [Option.some.injEq, Prod.mk.injEq] at he; obtain ⟨rfl, rfl⟩ := he; exact ok_makeInterface h ho hx hv
      · cases he
    · cases he
  case h_14 x t u ok ho =>
    split at he
    · rename_i va hx
      split at he
      · rename_i vs hv; simp only [Option.some.injEq, Prod.mk.injEq] at he; obtain ⟨rfl, rfl⟩ := he; exact ok_typeAssert h ho hx hv
      · rename_i v hnt hv; simp only [Option.some.injEq, Prod.mk.injEq] at he; obtain ⟨rfl, rfl⟩ := he
        have := ok_typeAssert h (nb := nb) ho hx hv
        cases v with
        | tuple vs => exact absurd rfl (hnt vs)
        | _ => exact this
      · cases he
    · cases he
  case h_15 t x f ho =>
    split at he
    · rename_i off ft hf
      split at he
      · rename_i sz hs
        split at he
        · rename_i h0
          simp only [Nat.blt_eq] at h0
          split at he
          · rename_i b o' hx; simp only [Option.some.injEq, Prod.mk.injEq] at he; obtain ⟨rfl, rfl⟩ := he; exact ok_fieldAddr_ptr h ho hf hs h0 hx
          · rename_i cs hx; simp only [Option.some.injEq, Prod.mk.injEq] at he; obtain ⟨rfl, rfl⟩ := he; exact ok_fieldAddr_rptr h ho hf hs h0 hx
          · cases he
        · cases he
      · cases he
    · cases he
  case h_16 t x f ho =>
    split at he
    · rename_i off ft cs hf hx
      split at he
      · rename_i sz ag hs ha; simp only [Option.some.injEq, Prod.mk.injEq] at he; obtain ⟨rfl, rfl⟩ := he
        simp only [need_ok] at hn; exact ok_field h ho hf hs ha hx hn
      · cases he
    · cases he
  case h_17 t x ix ho =>
    split at he
    · rename_i e k i ht hix
      split at he
      · rename_i sz hs
        split at he
        · rename_i len full cs hx; simp only [Option.some.injEq, Prod.mk.injEq] at he; obtain ⟨rfl, rfl⟩ := he
          simp only [need_ok] at hn; exact ok_indexAddr_row h ho ht hs hix hx hn.1 hn.2
        · rename_i b off len cap hx; simp only [Option.some.injEq, Prod.mk.injEq] at he; obtain ⟨rfl, rfl⟩ := he
          simp only [need_ok] at hn; exact ok_indexAddr_slc h ho ht hs hix hx hn
        · rename_i b len size hx; simp only [Option.some.injEq, Prod.mk.injEq] at he; obtain ⟨rfl, rfl⟩ := he
          simp only [need_ok] at hn; exact ok_indexAddr_gsl h ho ht hs hix hx hn
        · cases he
      · cases he
    · rename_i m e k i ht hix
      split at he
      · rename_i sz hs
        split at he
        · rename_i cs hx; simp only [Option.some.injEq, Prod.mk.injEq] at he; obtain ⟨rfl, rfl⟩ := he
          simp only [need_ok] at hn; exact ok_indexAddr_rptr h ho ht hs hix hx hn
        · rename_i b off hx; simp only [Option.some.injEq, Prod.mk.injEq] at he; obtain ⟨rfl, rfl⟩ := he
          simp only [need_ok] at hn; exact ok_indexAddr_ptr h ho ht hs hix hx hn
        · cases he
      · cases he
    · cases he
  case h_18 t x ix ho =>
    split at he
    · rename_i k i hix
      split at he
      · rename_i m e cs ht hx
        split at he
        · rename_i sz ag hs ha; simp only [Option.some.injEq, Prod.mk.injEq] at he; obtain ⟨rfl, rfl⟩ := he
          simp only [need_ok] at hn; exact ok_index h ho ht hs ha hix hx hn.1 hn.2
        · cases he
      · rename_i d ht hx
        split at he
        · rename_i b hst hb; simp only [Option.some.injEq, Prod.mk.injEq] at he; obtain ⟨rfl, rfl⟩ := he
          simp only [need_ok] at hn; exact ok_index_str h ho hst hix hb hn
        · cases he
      · cases he
    · cases he
  case h_19 x i ho =>
    split at he
    · rename_i ds hx
      split at he
      · rename_i d hd; simp only [Option.some.injEq, Prod.mk.injEq] at he; obtain ⟨rfl, rfl⟩ := he; exact ok_extract h ho hx hd
      · cases he
    · cases he
  case h_20 t x lo hi ho =>
    split at he
    · rename_i e ht
      split at he
      · rename_i sz len full cs k1 l hs hx hlo
        split at he
        · rename_i k2 u hhi; simp only [Option.some.injEq, Prod.mk.injEq] at he; obtain ⟨rfl, rfl⟩ := he
          simp only [need_ok] at hn; exact ok_slice_row h ho ht hs hx hlo hhi hn
        · cases he
      · rename_i sz b off len cap k1 l hs hx hlo
        split at he
        · rename_i k2 u hhi; simp only [Option.some.injEq, Prod.mk.injEq] at he; obtain ⟨rfl, rfl⟩ := he
          simp only [need_ok] at hn; exact ok_slice_slc h ho ht hs hx hlo hhi hn
        · cases he
      · rename_i sz b len size k1 l hs hx hlo
        split at he
        · rename_i k2 u hhi
          split at he
          · rename_i hl0
            simp only [beq_iff_eq] at hl0
            subst hl0
            simp only [Option.some.injEq, Prod.mk.injEq] at he; obtain ⟨rfl, rfl⟩ := he
            simp only [need_ok] at hn; exact ok_slice_gsl h ho ht hs hx hlo hhi hn
          · cases he
        · cases he
      · cases he
    · rename_i m e ht
      split at he
      · rename_i sz cs k1 l hs hx hlo
        split at he
        · rename_i k2 u hhi; simp only [Option.some.injEq, Prod.mk.injEq] at he; obtain ⟨rfl, rfl⟩ := he
          simp only [need_ok] at hn; exact ok_slice_array h ho ht hs hx hlo hhi hn
        · cases he
      · cases he
    · split at he
      · rename_i b k1 l k2 u hst hx hlo hhi; simp only [Option.some.injEq, Prod.mk.injEq] at he; obtain ⟨rfl, rfl⟩ := he
        simp only [need_ok] at hn; exact ok_slice_str h ho hst hx hlo hhi hn
      · cases he
  case h_21 t l k ho =>
    split at he
    · rename_i e len cap ht hl hk
      split at he
      · rename_i z i hz hs hi; simp only [Option.some.injEq, Prod.mk.injEq] at he; obtain ⟨rfl, rfl⟩ := he
        simp only [need_ok] at hn; exact ok_makeSlice h ho ht hl hk hz hs hi hn
      · cases he
    · cases he
  case h_22 k ho =>
    split at he
    · rename_i x hk
      split at he
      · rename_i f hf
        obtain ⟨h1, fn, h2, h3, h4⟩ := callTarget_spec hf
        simp only [Option.some.injEq, Prod.mk.injEq] at he; obtain ⟨rfl, rfl⟩ := he; exact ok_call h ho hk h1 h2 h3 h4
      · cases he
    · rename_i hk
      split at he
      · rename_i len full xs hl
        obtain ⟨x, hx1, hx2⟩ : ∃ x, k.args.toList = [x] ∧ s.ev x = .row len full xs := by
          cases hk' : k.args.toList with
          | nil => rw [hk'] at hl; cases hl
          | cons x r => cases r with
            | nil => rw [hk'] at hl; simp only [List.map_cons, List.map_nil, List.cons.injEq, and_true] at hl; exact ⟨x, rfl, hl⟩
            | cons y r => rw [hk'] at hl; simp at hl
        split at he
        · rename_i t ht
          split at he
          · rename_i e hte; simp only [Option.some.injEq, Prod.mk.injEq] at he; obtain ⟨rfl, rfl⟩ := he; exact ok_len_row h ho hk hx1 ht hte hx2
          · cases he
        · cases he
      · rename_i b off len cap hl
        obtain ⟨x, hx1, hx2⟩ : ∃ x, k.args.toList = [x] ∧ s.ev x = .slc b off len cap := by
          cases hk' : k.args.toList with
          | nil => rw [hk'] at hl; cases hl
          | cons x r => cases r with
            | nil => rw [hk'] at hl; simp only [List.map_cons, List.map_nil, List.cons.injEq, and_true] at hl; exact ⟨x, rfl, hl⟩
            | cons y r => rw [hk'] at hl; simp at hl
        split at he
        · rename_i t ht
          split at he
          · rename_i e hte; simp only [Option.some.injEq, Prod.mk.injEq] at he; obtain ⟨rfl, rfl⟩ := he; exact ok_len_slc h ho hk hx1 ht hte hx2
          · cases he
        · cases he
      · rename_i b len sz hl
        obtain ⟨x, hx1, hx2⟩ : ∃ x, k.args.toList = [x] ∧ s.ev x = .gsl b len sz := by
          cases hk' : k.args.toList with
          | nil => rw [hk'] at hl; cases hl
          | cons x r => cases r with
            | nil => rw [hk'] at hl; simp only [List.map_cons, List.map_nil, List.cons.injEq, and_true] at hl; exact ⟨x, rfl, hl⟩
            | cons y r => rw [hk'] at hl; simp at hl
        split at he
        · rename_i t ht
          split at he
          · rename_i e hte; simp only [Option.some.injEq, Prod.mk.injEq] at he; obtain ⟨rfl, rfl⟩ := he; exact ok_len_gsl h ho hk hx1 ht hte hx2
          · cases he
        · cases he
      · rename_i d _ _ _ hl
        obtain ⟨x, hx1, hx2⟩ : ∃ x, k.args.toList = [x] ∧ s.ev x = d := by
          cases hk' : k.args.toList with
          | nil => rw [hk'] at hl; cases hl
          | cons x r => cases r with
            | nil => rw [hk'] at hl; simp only [List.map_cons, List.map_nil, List.cons.injEq, and_true] at hl; exact ⟨x, rfl, hl⟩
            | cons y r => rw [hk'] at hl; simp at hl
        split at he
        · rename_i v hv
          split at he
          · rename_i r hr; simp only [Option.some.injEq, Prod.mk.injEq] at he; obtain ⟨rfl, rfl⟩ := he; exact ok_len_lit h ho hk hx1 (by rw [hx2]; exact hv) hr
          · cases he
        · cases he
      · cases he
    · rename_i hk
      split at he
      · rename_i vs hv
        split at he
        · rename_i r hr; simp only [Option.some.injEq, Prod.mk.injEq] at he; obtain ⟨rfl, rfl⟩ := he; exact ok_max h ho hk hv hr
        · cases he
      · cases he
    · rename_i hk
      split at he
      · rename_i vs hv
        split at he
        · rename_i r hr; simp only [Option.some.injEq, Prod.mk.injEq] at he; obtain ⟨rfl, rfl⟩ := he; exact ok_min h ho hk hv hr
        · cases he
      · cases he
    · rename_i hk
      split at he
      · rename_i x0 q full ys t t' hl ht
        obtain ⟨x, y, hx1, hx2, hx3⟩ : ∃ x y, k.args.toList = [x, y] ∧ s.ev x = x0 ∧ s.ev y = .row q full ys := by
          cases hk' : k.args.toList with
          | nil => rw [hk'] at hl; cases hl
          | cons x r => cases r with
            | nil => rw [hk'] at hl; simp at hl
            | cons y r => cases r with
              | nil => rw [hk'] at hl; simp only [List.map_cons, List.map_nil, List.cons.injEq, and_true] at hl; exact ⟨x, y, rfl, hl.1, hl.2⟩
              | cons y r => rw [hk'] at hl; simp at hl
        split at he
        · rename_i e hte
          split at he
          · rename_i i hi
            split at he
            · rename_i hc
              simp only [Bool.and_eq_true, beq_iff_eq, Nat.blt_eq] at hc
              obtain ⟨⟨rfl, hz⟩, h0⟩ := hc
              obtain ⟨z, hzz, hzs⟩ : ∃ z, i.zero = some z ∧ z.cells.size = i.size := by
                cases hz' : i.zero with
                | none => rw [hz'] at hz; simp at hz
                | some z => rw [hz'] at hz; exact ⟨z, rfl, by simpa using hz⟩
              split at he
              · rename_i p xs
                split at he
                · simp only [Option.some.injEq, Prod.mk.injEq] at he; obtain ⟨rfl, rfl⟩ := he
                  simp only [need_ok] at hn; exact ok_append_row h ho hk hx1 ht hte hi hzz hzs h0 hx2 hx3 hn
                · simp only [Option.some.injEq, Prod.mk.injEq] at he; obtain ⟨rfl, rfl⟩ := he
                  simp only [need_ok] at hn; exact ok_append_new h ho hk hx1 ht hte hi hzz hzs h0 hx2 hx3 hn
              · rename_i b p sz
                split at he
                · rename_i cs hb
                  split at he
                  · rename_i hc2
                    simp only [Bool.and_eq_true, beq_iff_eq, Nat.ble_eq] at hc2
                    obtain ⟨rfl, hg2, hok⟩ := hc2
                    simp only [Option.some.injEq, Prod.mk.injEq] at he; obtain ⟨rfl, rfl⟩ := he
                    simp only [need_ok] at hn; exact ok_append_grow h ho hk hx1 ht hte hi hzz hzs h0 hx2 hx3 hb (by omega) hok hn
                  · cases he
                · cases he
              · cases he
            · cases he
          · cases he
        · cases he
      · cases he
    · cases he
  case h_23 => cases he
end Lw
