/- The library's Itoa, Repeat and Join as contracts. No condition; Itoa where its table lies. -/
import Derived.Test.YticigjdakdbbjaaGreatDoorLwTa
import Derived.Test.YticigjdakdbbjaaGreatDoorLwWa
import Derived.Shelf.Lay
import Derived.Shelf.LaySoft
import Derived.Shelf.Strconv.Itoa3
import Derived.Shelf.Strings.OnBuilder
import Derived.Shelf.Strings.Repeat
import Derived.Lib.AppendIntMem
namespace Go.Proofs
open Go.Shelf
shelf_lay LaysM.n171 Nm 171 at Tryz as Tryz.lays171
shelf_lay Lays.n156 Nm 156 at Tryz as Tryz.lays156
shelf_lay Lays.n105 Nm 105 at Tryz as Tryz.lays105
theorem Tryz.Builder_Extra_156 : Builder.Extra Tryz.prog Tryz.lays156_ren where
  sizeBuilder := by kernel_rfl
  liesBuilder := by kernel_rfl
  t5 := Tryz.underlying5
  a5 := Tryz.isAgg5
  z5 := Tryz.sizeOf5
  v5 := Tryz.zeroValue5
  infoByte := by kernel_rfl
  cellsByte := by kernel_rfl
  sizeByte := by kernel_rfl
  neB5 := by decide
theorem Tryz.Builder_Extra_105 : Builder.Extra Tryz.prog Tryz.lays105_ren where
  sizeBuilder := by kernel_rfl
  liesBuilder := by kernel_rfl
  t5 := Tryz.underlying5
  a5 := Tryz.isAgg5
  z5 := Tryz.sizeOf5
  v5 := Tryz.zeroValue5
  infoByte := by kernel_rfl
  cellsByte := by kernel_rfl
  sizeByte := by kernel_rfl
  neB5 := by decide
end Go.Proofs

namespace Lw
open Go Go.RowKit Go.Proofs

variable {G : World → Prop}
/-- A text as data. -/
def tx (l : List UInt8) : D := .lit (.string ⟨l.toArray⟩)
/-- The table that Itoa reads lies where it lay. -/
def Tab (w : World) : Prop := Lib.TabIs Tryz.prog w "internal/strconv.uint64pow10" .u64 Lib.pow10Tab
theorem args_one {w : World} {F : Nat → Prop} {vals : List Value} {v : Value} (h : Reps w F vals [.lit v]) : vals = [v] := by
  obtain ⟨hl, hr⟩ := h
  match vals, hl, hr with
  | [u], _, hr =>
    have := hr 0 (by simp) (by simp)
    cases this
    rfl
theorem args_two {w : World} {F : Nat → Prop} {vals : List Value} {v u : Value} (h : Reps w F vals [.lit v, .lit u]) : vals = [v, u] := by
  obtain ⟨hl, hr⟩ := h
  match vals, hl, hr with
  | [a, b], _, hr =>
    have h0 : RepP w F a (.lit v) := hr 0 (by simp) (by simp)
    have h1 : RepP w F b (.lit u) := hr 1 (by simp) (by simp)
    cases h0
    cases h1
    rfl
theorem Itoa_spec (hG : Steady G) (hT : ∀ w, G w → Tab w) {n : Int} (h0 : -9223372036854775808 ≤ n) (h1 : n ≤ 9223372036854775807) : Spec Tryz.prog G 115 [int n] (tx (Lib.itoa n)) := fun w F vals hg ha hF => by
  obtain rfl := args_one ha
  refine (show Calls Tryz.prog 115 #[.int .i64 n] w _ from Any.strconv_Itoa Tryz.lays171 n h0 h1 w (hT w hg)).mono fun e w' hend => ?_
  obtain ⟨rfl, k, os, rfl⟩ := hend
  have hb := Lib.below_grow w.heap.size w (Nat.le_refl _) k os
  exact ⟨_, rfl, .lit _, hb, hG _ _ hb hg⟩
theorem Repeat_spec (hG : Steady G) {l : List UInt8} {c : Nat} (hc : c ≤ 9223372036854775807) (hl : l.length * c ≤ 140737488355328) : Spec Tryz.prog G 116 [tx l, nat c] (tx (Lib.repeatL l c)) := fun w F vals hg ha hF => by
  obtain rfl := args_two ha
  refine (show Calls Tryz.prog 116 #[.string ⟨l.toArray⟩, .int .i64 c] w _ from Any.strings_Repeat Tryz.lays105 Tryz.Builder_Extra_105 ⟨l.toArray⟩ c w hc (by simpa [ByteArray.size] using hl)).mono fun e w' hend => ?_
  obtain ⟨rfl, hb⟩ := hend
  exact ⟨_, rfl, .lit _, hb, hG _ _ hb hg⟩
theorem Join_spec (hG : Steady G) {xs : List (List UInt8)} {sep : List UInt8} (h0 : xs ≠ []) (hN : xs.length ≤ 140737488355328) (hl : (Lib.join xs sep).length ≤ 140737488355328) :
    Spec Tryz.prog G 117 [.row xs.length false (xs.map tx), tx sep] (tx (Lib.join xs sep)) := fun w F vals hg ha hF => by
  obtain ⟨hlen, hr⟩ := ha
  match vals, hlen, hr with
  | [a, b], _, hr =>
    have r0 : RepP w F a (.row xs.length false (xs.map tx)) := hr 0 (by simp) (by simp)
    have r1 : RepP w F b (tx sep) := hr 1 (by simp) (by simp)
    obtain ⟨ad, cap, us, rfl, g1, g2, -, ⟨g3, g4⟩, g5⟩ := row_val r0
    have hxs : 0 < xs.length := List.length_pos_iff.2 h0
    have hus : us.length = xs.length := by rw [g3, List.length_map]
    obtain ⟨ad', e1, -, e2⟩ := g5 0 (by omega)
    subst e1
    have hat : ∀ (j : Nat) (x : List UInt8), xs[j]? = some x → w.cell? (ad'.add j) = some (.string ⟨x.toArray⟩) := by
      intro j x hx
      have hj : j < xs.length := (List.getElem?_eq_some_iff.1 hx).1
      obtain ⟨a2, k1, -, k2⟩ := g5 j (by omega)
      simp only [Option.some.injEq] at k1
      subst k1
      have := g4 j (by omega) (by rw [List.length_map]; exact hj)
      rw [List.getElem_map, (List.getElem?_eq_some_iff.1 hx).2] at this
      have hv : ∀ u : Value, RepP w F u (tx x) → u = .string ⟨x.toArray⟩ := fun u hu => by
        unfold tx at hu
        cases hu
        rfl
      rw [k2, hv _ this]
    obtain ⟨bk, o, sp⟩ := ad'
    have hsp : sp = none := by
      cases sp with
      | none => rfl
      | some s =>
        exfalso
        have : (Addr.mk bk o (some s)).add 0 = ⟨bk, o, some s⟩ := rfl
        rw [this] at e2
        unfold World.cell? at e2
        split at e2
        · simp at e2
        · cases e2
    subst hsp
    have hbk : bk < w.heap.size := by
      have : (Addr.mk bk o none).add 0 = ⟨bk, o, none⟩ := rfl
      rw [this] at e2
      unfold World.cell? at e2
      split at e2
      · rename_i h; exact (Array.getElem?_eq_some_iff.1 h).1
      · cases e2
    cases r1
    have em : ((xs.map fun x => (⟨x.toArray⟩ : ByteArray)).map (·.data.toList)) = xs := by rw [List.map_map]; simp [Function.comp_def]
    refine (show Calls Tryz.prog 117 #[.slice (some ⟨bk, o, none⟩) xs.length cap, .string ⟨sep.toArray⟩] w _ from by
      have := Any.strings_Join Tryz.lays156 Tryz.Builder_Extra_156 bk o cap (xs.map fun x => (⟨x.toArray⟩ : ByteArray)) ⟨sep.toArray⟩ w
        (fun j x hx => by
          rw [List.getElem?_map, Option.map_eq_some_iff] at hx
          obtain ⟨y, hy, rfl⟩ := hx
          have := hat j y hy
          have ea : (Addr.mk bk o none).add j = ⟨bk, o + j, none⟩ := by
            unfold Addr.add
            split
            · rename_i hj; subst hj; rfl
            · rfl
          rwa [ea] at this) hbk (by rw [List.length_map]; exact hN) (by rw [List.length_map]; exact g1) (by rw [em]; simpa using hl)
      rw [List.length_map, em] at this
      exact this).mono fun e w' hend => ?_
    obtain ⟨rfl, hb⟩ := hend
    exact ⟨_, rfl, .lit _, hb, hG _ _ hb hg⟩
end Lw
