/- The library's Itoa, Repeat and Join as contracts. No condition; Itoa where its table lies. -/
import Derived.Test.YticigjdakdbbjaaGreatDoorLwTa
import Derived.Test.YticigjdakdbbjaaGreatDoorLwWa
import Derived.Shelf.Strconv.Itoa3
import Derived.Shelf.Strings.OnBuilder
import Derived.Shelf.Strings.Repeat
import Derived.Lib.AppendIntMem
namespace Go.Proofs
open Go.Shelf
def Tryz.lays171_ren : Go.Shelf.Ren := ⟨fun | 171 => 115 | 243 => 132 | 246 => 140 | 283 => 146 | 284 => 147 | 285 => 148 | 286 => 149 | 129 => 153 | 317 => 152 | 318 => 154 | 319 => 155 | 320 => 156 | 337 => 157 | 338 => 158 | n => n, fun | 3 => 3 | 9 => 9 | 2 => 2 | 4 => 4 | 171 => 133 | 0 => 0 | 53 => 99 | 37 => 118 | 5 => 5 | 173 => 136 | 212 => 143 | 51 => 90 | 20 => 20 | 213 => 144 | 46 => 100 | 232 => 147 | 233 => 148 | n => n, fun | 17 => 0 | 18 => 2 | 19 => 3 | n => n⟩
theorem Tryz.lays171 : Go.Proofs.LaysM.n171 Tryz.prog Tryz.lays171_ren := {
  mixed := by kernel_rfl
  f129 := Tryz.func153.trans (congrArg some (by kernel_rfl))
  f171 := Tryz.func115.trans (congrArg some (by kernel_rfl))
  f243 := Tryz.func132.trans (congrArg some (by kernel_rfl))
  f246 := Tryz.func140.trans (congrArg some (by kernel_rfl))
  f283 := Tryz.func146.trans (congrArg some (by kernel_rfl))
  f284 := Tryz.func147.trans (congrArg some (by kernel_rfl))
  f285 := Tryz.func148.trans (congrArg some (by kernel_rfl))
  f286 := Tryz.func149.trans (congrArg some (by kernel_rfl))
  f317 := Tryz.func152.trans (congrArg some (by kernel_rfl))
  f318 := Tryz.func154.trans (congrArg some (by kernel_rfl))
  f319 := Tryz.func155.trans (congrArg some (by kernel_rfl))
  f320 := Tryz.func156.trans (congrArg some (by kernel_rfl))
  f337 := Tryz.func157.trans (congrArg some (by kernel_rfl))
  f338 := Tryz.func158.trans (congrArg some (by kernel_rfl))
  t0 := Tryz.underlying0
  a0 := Tryz.isAgg0
  z0 := Tryz.sizeOf0
  v0 := Tryz.zeroValue0
  t2 := Tryz.underlying2
  a2 := Tryz.isAgg2
  z2 := Tryz.sizeOf2
  v2 := Tryz.zeroValue2
  t3 := Tryz.underlying3
  a3 := Tryz.isAgg3
  z3 := Tryz.sizeOf3
  v3 := Tryz.zeroValue3
  t4 := Tryz.underlying4
  a4 := Tryz.isAgg4
  z4 := Tryz.sizeOf4
  v4 := Tryz.zeroValue4
  t5 := Tryz.underlying5
  a5 := Tryz.isAgg5
  z5 := Tryz.sizeOf5
  v5 := Tryz.zeroValue5
  t9 := Tryz.underlying9
  a9 := Tryz.isAgg9
  z9 := Tryz.sizeOf9
  v9 := Tryz.zeroValue9
  t20 := Tryz.underlying20
  a20 := Tryz.isAgg20
  z20 := Tryz.sizeOf20
  v20 := Tryz.zeroValue20
  t37 := Tryz.underlying118
  a37 := Tryz.isAgg118
  z37 := Tryz.sizeOf118
  v37 := Tryz.zeroValue118
  t46 := Tryz.underlying100
  a46 := Tryz.isAgg100
  z46 := Tryz.sizeOf100
  v46 := Tryz.zeroValue100
  t51 := Tryz.underlying90
  a51 := Tryz.isAgg90
  z51 := Tryz.sizeOf90
  v51 := Tryz.zeroValue90
  t53 := Tryz.underlying99
  a53 := Tryz.isAgg99
  z53 := Tryz.sizeOf99
  v53 := Tryz.zeroValue99
  t171 := Tryz.underlying133
  a171 := Tryz.isAgg133
  z171 := Tryz.sizeOf133
  v171 := Tryz.zeroValue133
  t173 := Tryz.underlying136
  a173 := Tryz.isAgg136
  z173 := Tryz.sizeOf136
  v173 := Tryz.zeroValue136
  t212 := Tryz.underlying143
  a212 := Tryz.isAgg143
  z212 := Tryz.sizeOf143
  v212 := Tryz.zeroValue143
  t213 := Tryz.underlying144
  a213 := Tryz.isAgg144
  z213 := Tryz.sizeOf144
  t232 := Tryz.underlying147
  a232 := Tryz.isAgg147
  z232 := Tryz.sizeOf147
  v232 := Tryz.zeroValue147
  t233 := Tryz.underlying148
  a233 := Tryz.isAgg148
  z233 := Tryz.sizeOf148
  v233 := Tryz.zeroValue148
  g17 := by kernel_rfl
  g18 := by kernel_rfl
  g19 := by kernel_rfl
  i0 := by kernel_rfl
  i2 := by kernel_rfl
  i3 := by kernel_rfl
  i4 := by kernel_rfl
  i5 := by kernel_rfl
  i9 := by kernel_rfl
  i20 := by kernel_rfl
  i37 := by kernel_rfl
  i46 := by kernel_rfl
  i51 := by kernel_rfl
  i53 := by kernel_rfl
  i171 := by kernel_rfl
  i173 := by kernel_rfl
  i212 := by kernel_rfl
  i232 := by kernel_rfl
  i233 := by kernel_rfl
  m17 := by kernel_rfl
  m18 := by kernel_rfl
  m19 := by kernel_rfl }
def Tryz.lays156_ren : Go.Shelf.Ren := ⟨fun | 156 => 117 | 165 => 135 | 166 => 136 | 169 => 138 | 240 => 144 | 241 => 145 | 276 => 150 | 277 => 151 | n => n, fun | 31 => 103 | 9 => 9 | 3 => 3 | 4 => 4 | 0 => 0 | 20 => 20 | 72 => 120 | 76 => 122 | 70 => 117 | 37 => 118 | 75 => 30 | 127 => 132 | 164 => 138 | 5 => 5 | 80 => 125 | n => n, fun | n => n⟩
theorem Tryz.lays156 : Go.Proofs.Lays.n156 Tryz.prog Tryz.lays156_ren := {
  mixed := by kernel_rfl
  f156 := Tryz.func117.trans (congrArg some (by kernel_rfl))
  f165 := Tryz.func135.trans (congrArg some (by kernel_rfl))
  f166 := Tryz.func136.trans (congrArg some (by kernel_rfl))
  f169 := Tryz.func138.trans (congrArg some (by kernel_rfl))
  f240 := Tryz.func144.trans (congrArg some (by kernel_rfl))
  f241 := Tryz.func145.trans (congrArg some (by kernel_rfl))
  f276 := Tryz.func150.trans (congrArg some (by kernel_rfl))
  f277 := Tryz.func151.trans (congrArg some (by kernel_rfl))
  t0 := Tryz.underlying0
  a0 := Tryz.isAgg0
  z0 := Tryz.sizeOf0
  v0 := Tryz.zeroValue0
  t3 := Tryz.underlying3
  a3 := Tryz.isAgg3
  z3 := Tryz.sizeOf3
  v3 := Tryz.zeroValue3
  t4 := Tryz.underlying4
  a4 := Tryz.isAgg4
  z4 := Tryz.sizeOf4
  v4 := Tryz.zeroValue4
  t9 := Tryz.underlying9
  a9 := Tryz.isAgg9
  z9 := Tryz.sizeOf9
  v9 := Tryz.zeroValue9
  t20 := Tryz.underlying20
  a20 := Tryz.isAgg20
  z20 := Tryz.sizeOf20
  v20 := Tryz.zeroValue20
  t31 := Tryz.underlying103
  a31 := Tryz.isAgg103
  z31 := Tryz.sizeOf103
  v31 := Tryz.zeroValue103
  t37 := Tryz.underlying118
  a37 := Tryz.isAgg118
  z37 := Tryz.sizeOf118
  v37 := Tryz.zeroValue118
  t70 := Tryz.underlying117
  a70 := Tryz.isAgg117
  z70 := Tryz.sizeOf117
  v70 := Tryz.zeroValue117
  t72 := Tryz.underlying120
  a72 := Tryz.isAgg120
  z72 := Tryz.sizeOf120
  v72 := Tryz.zeroValue120
  t75 := Tryz.underlying30
  a75 := Tryz.isAgg30
  z75 := Tryz.sizeOf30
  v75 := Tryz.zeroValue30
  t76 := Tryz.underlying122
  a76 := Tryz.isAgg122
  z76 := Tryz.sizeOf122
  v76 := Tryz.zeroValue122
  t127 := Tryz.underlying132
  a127 := Tryz.isAgg132
  z127 := Tryz.sizeOf132
  v127 := Tryz.zeroValue132
  t164 := Tryz.underlying138
  a164 := Tryz.isAgg138
  z164 := Tryz.sizeOf138
  v164 := Tryz.zeroValue138 }
def Tryz.lays105_ren : Go.Shelf.Ren := ⟨fun | 105 => 116 | 212 => 133 | 99 => 134 | 165 => 135 | 166 => 136 | 170 => 137 | 169 => 138 | 263 => 141 | 264 => 142 | 206 => 143 | 240 => 144 | 241 => 145 | 276 => 150 | 277 => 151 | n => n, fun | 9 => 9 | 3 => 3 | 4 => 4 | 20 => 20 | 0 => 0 | 46 => 100 | 109 => 114 | 5 => 5 | 72 => 120 | 76 => 122 | 51 => 90 | 146 => 128 | 53 => 99 | 148 => 130 | 70 => 117 | 37 => 118 | 75 => 30 | 127 => 132 | 164 => 138 | 80 => 125 | n => n, fun | n => n⟩
theorem Tryz.lays105 : Go.Proofs.Lays.n105 Tryz.prog Tryz.lays105_ren := {
  mixed := by kernel_rfl
  f99 := Tryz.func134.trans (congrArg some (by kernel_rfl))
  f105 := Tryz.func116.trans (congrArg some (by kernel_rfl))
  f165 := Tryz.func135.trans (congrArg some (by kernel_rfl))
  f166 := Tryz.func136.trans (congrArg some (by kernel_rfl))
  f169 := Tryz.func138.trans (congrArg some (by kernel_rfl))
  f170 := Tryz.func137.trans (congrArg some (by kernel_rfl))
  f206 := Tryz.func143.trans (congrArg some (by kernel_rfl))
  f212 := Tryz.func133.trans (congrArg some (by kernel_rfl))
  f240 := Tryz.func144.trans (congrArg some (by kernel_rfl))
  f241 := Tryz.func145.trans (congrArg some (by kernel_rfl))
  f263 := Tryz.func141.trans (congrArg some (by kernel_rfl))
  f264 := Tryz.func142.trans (congrArg some (by kernel_rfl))
  f276 := Tryz.func150.trans (congrArg some (by kernel_rfl))
  f277 := Tryz.func151.trans (congrArg some (by kernel_rfl))
  t0 := Tryz.underlying0
  a0 := Tryz.isAgg0
  z0 := Tryz.sizeOf0
  v0 := Tryz.zeroValue0
  t3 := Tryz.underlying3
  a3 := Tryz.isAgg3
  z3 := Tryz.sizeOf3
  v3 := Tryz.zeroValue3
  t4 := Tryz.underlying4
  a4 := Tryz.isAgg4
  z4 := Tryz.sizeOf4
  v4 := Tryz.zeroValue4
  t5 := Tryz.underlying5
  a5 := Tryz.isAgg5
  z5 := Tryz.sizeOf5
  v5 := Tryz.zeroValue5
  t9 := Tryz.underlying9
  a9 := Tryz.isAgg9
  z9 := Tryz.sizeOf9
  v9 := Tryz.zeroValue9
  t20 := Tryz.underlying20
  a20 := Tryz.isAgg20
  z20 := Tryz.sizeOf20
  v20 := Tryz.zeroValue20
  t37 := Tryz.underlying118
  a37 := Tryz.isAgg118
  z37 := Tryz.sizeOf118
  v37 := Tryz.zeroValue118
  t46 := Tryz.underlying100
  a46 := Tryz.isAgg100
  z46 := Tryz.sizeOf100
  v46 := Tryz.zeroValue100
  t51 := Tryz.underlying90
  a51 := Tryz.isAgg90
  z51 := Tryz.sizeOf90
  v51 := Tryz.zeroValue90
  t53 := Tryz.underlying99
  a53 := Tryz.isAgg99
  z53 := Tryz.sizeOf99
  v53 := Tryz.zeroValue99
  t70 := Tryz.underlying117
  a70 := Tryz.isAgg117
  z70 := Tryz.sizeOf117
  v70 := Tryz.zeroValue117
  t72 := Tryz.underlying120
  a72 := Tryz.isAgg120
  z72 := Tryz.sizeOf120
  v72 := Tryz.zeroValue120
  t75 := Tryz.underlying30
  a75 := Tryz.isAgg30
  z75 := Tryz.sizeOf30
  v75 := Tryz.zeroValue30
  t76 := Tryz.underlying122
  a76 := Tryz.isAgg122
  z76 := Tryz.sizeOf122
  v76 := Tryz.zeroValue122
  t109 := Tryz.underlying114
  a109 := Tryz.isAgg114
  z109 := Tryz.sizeOf114
  v109 := Tryz.zeroValue114
  t127 := Tryz.underlying132
  a127 := Tryz.isAgg132
  z127 := Tryz.sizeOf132
  v127 := Tryz.zeroValue132
  t146 := Tryz.underlying128
  a146 := Tryz.isAgg128
  z146 := Tryz.sizeOf128
  v146 := Tryz.zeroValue128
  t148 := Tryz.underlying130
  a148 := Tryz.isAgg130
  z148 := Tryz.sizeOf130
  v148 := Tryz.zeroValue130
  t164 := Tryz.underlying138
  a164 := Tryz.isAgg138
  z164 := Tryz.sizeOf138
  v164 := Tryz.zeroValue138 }
theorem Tryz.Builder_Extra_156 : Builder.Extra Tryz.prog Tryz.lays156_ren := {
  sizeBuilder := by kernel_rfl
  liesBuilder := by kernel_rfl
  t5 := Tryz.underlying5
  a5 := Tryz.isAgg5
  z5 := Tryz.sizeOf5
  v5 := Tryz.zeroValue5
  infoByte := by kernel_rfl
  cellsByte := by kernel_rfl
  sizeByte := by kernel_rfl
  neB5 := by decide }
theorem Tryz.Builder_Extra_105 : Builder.Extra Tryz.prog Tryz.lays105_ren := {
  sizeBuilder := by kernel_rfl
  liesBuilder := by kernel_rfl
  t5 := Tryz.underlying5
  a5 := Tryz.isAgg5
  z5 := Tryz.sizeOf5
  v5 := Tryz.zeroValue5
  infoByte := by kernel_rfl
  cellsByte := by kernel_rfl
  sizeByte := by kernel_rfl
  neB5 := by decide }
end Go.Proofs

namespace Lw
open Go Go.RowKit Go.Proofs

variable {G : World → Prop}
/-- A text as data. -/
def tx (l : List UInt8) : D := .lit (.string ⟨l.toArray⟩)
/-- The table that Itoa reads lies where it lay. -/
def Tab (w : World) : Prop := Lib.TabIs Tryz.prog w "internal/strconv.uint64pow10" .u64 Lib.pow10Tab
theorem args_one {w : World} {F : Nat → Prop} {vals : List Value} {v : Value} (h : Reps w F vals [.lit v]) : vals = [v] := by
  obtain ⟨hl, hr⟩ := h
  match vals, hl, hr with
  | [u], _, hr =>
    have := hr 0 (by simp) (by simp)
    cases this
    rfl
theorem args_two {w : World} {F : Nat → Prop} {vals : List Value} {v u : Value} (h : Reps w F vals [.lit v, .lit u]) : vals = [v, u] := by
  obtain ⟨hl, hr⟩ := h
  match vals, hl, hr with
  | [a, b], _, hr =>
    have h0 : RepP w F a (.lit v) := hr 0 (by simp) (by simp)
    have h1 : RepP w F b (.lit u) := hr 1 (by simp) (by simp)
    cases h0
    cases h1
    rfl
theorem Itoa_spec (hG : Steady G) (hT : ∀ w, G w → Tab w) {n : Int} (h0 : -9223372036854775808 ≤ n) (h1 : n ≤ 9223372036854775807) : Spec Tryz.prog G 115 [int n] (tx (Lib.itoa n)) := fun w F vals hg ha hF => by
  obtain rfl := args_one ha
  refine (show Calls Tryz.prog 115 #[.int .i64 n] w _ from Any.strconv_Itoa Tryz.lays171 n h0 h1 w (hT w hg)).mono fun e w' hend => ?_
  obtain ⟨rfl, k, os, rfl⟩ := hend
  have hb := Lib.below_grow w.heap.size w (Nat.le_refl _) k os
  exact ⟨_, rfl, .lit _, hb, hG _ _ hb hg⟩
theorem Repeat_spec (hG : Steady G) {l : List UInt8} {c : Nat} (hc : c ≤ 9223372036854775807) (hl : l.length * c ≤ 140737488355328) : Spec Tryz.prog G 116 [tx l, nat c] (tx (Lib.repeatL l c)) := fun w F vals hg ha hF => by
  obtain rfl := args_two ha
  refine (show Calls Tryz.prog 116 #[.string ⟨l.toArray⟩, .int .i64 c] w _ from Any.strings_Repeat Tryz.lays105 Tryz.Builder_Extra_105 ⟨l.toArray⟩ c w hc (by simpa [ByteArray.size] using hl)).mono fun e w' hend => ?_
  obtain ⟨rfl, hb⟩ := hend
  exact ⟨_, rfl, .lit _, hb, hG _ _ hb hg⟩
theorem Join_spec (hG : Steady G) {xs : List (List UInt8)} {sep : List UInt8} (h0 : xs ≠ []) (hN : xs.length ≤ 140737488355328) (hl : (Lib.join xs sep).length ≤ 140737488355328) :
    Spec Tryz.prog G 117 [.row xs.length false (xs.map tx), tx sep] (tx (Lib.join xs sep)) := fun w F vals hg ha hF => by
  obtain ⟨hlen, hr⟩ := ha
  match vals, hlen, hr with
  | [a, b], _, hr =>
    have r0 : RepP w F a (.row xs.length false (xs.map tx)) := hr 0 (by simp) (by simp)
    have r1 : RepP w F b (tx sep) := hr 1 (by simp) (by simp)
    obtain ⟨ad, cap, us, rfl, g1, g2, -, ⟨g3, g4⟩, g5⟩ := row_val r0
    have hxs : 0 < xs.length := List.length_pos_iff.2 h0
    have hus : us.length = xs.length := by rw [g3, List.length_map]
    obtain ⟨ad', e1, -, e2⟩ := g5 0 (by omega)
    subst e1
    have hat : ∀ (j : Nat) (x : List UInt8), xs[j]? = some x → w.cell? (ad'.add j) = some (.string ⟨x.toArray⟩) := by
      intro j x hx
      have hj : j < xs.length := (List.getElem?_eq_some_iff.1 hx).1
      obtain ⟨a2, k1, -, k2⟩ := g5 j (by omega)
      simp only [Option.some.injEq] at k1
      subst k1
      have := g4 j (by omega) (by rw [List.length_map]; exact hj)
      rw [List.getElem_map, (List.getElem?_eq_some_iff.1 hx).2] at this
      have hv : ∀ u : Value, RepP w F u (tx x) → u = .string ⟨x.toArray⟩ := fun u hu => by
        unfold tx at hu
        cases hu
        rfl
      rw [k2, hv _ this]
    obtain ⟨bk, o, sp⟩ := ad'
    have hsp : sp = none := by
      cases sp with
      | none => rfl
      | some s =>
        exfalso
        have : (Addr.mk bk o (some s)).add 0 = ⟨bk, o, some s⟩ := rfl
        rw [this] at e2
        unfold World.cell? at e2
        split at e2
        · simp at e2
        · cases e2
    subst hsp
    have hbk : bk < w.heap.size := by
      have : (Addr.mk bk o none).add 0 = ⟨bk, o, none⟩ := rfl
      rw [this] at e2
      unfold World.cell? at e2
      split at e2
      · rename_i h; exact (Array.getElem?_eq_some_iff.1 h).1
      · cases e2
    cases r1
    have em : ((xs.map fun x => (⟨x.toArray⟩ : ByteArray)).map (·.data.toList)) = xs := by rw [List.map_map]; simp [Function.comp_def]
    refine (show Calls Tryz.prog 117 #[.slice (some ⟨bk, o, none⟩) xs.length cap, .string ⟨sep.toArray⟩] w _ from by
      have := Any.strings_Join Tryz.lays156 Tryz.Builder_Extra_156 bk o cap (xs.map fun x => (⟨x.toArray⟩ : ByteArray)) ⟨sep.toArray⟩ w
        (fun j x hx => by
          rw [List.getElem?_map, Option.map_eq_some_iff] at hx
          obtain ⟨y, hy, rfl⟩ := hx
          have := hat j y hy
          have ea : (Addr.mk bk o none).add j = ⟨bk, o + j, none⟩ := by
            unfold Addr.add
            split
            · rename_i hj; subst hj; rfl
            · rfl
          rwa [ea] at this) hbk (by rw [List.length_map]; exact hN) (by rw [List.length_map]; exact g1) (by rw [em]; simpa using hl)
      rw [List.length_map, em] at this
      exact this).mono fun e w' hend => ?_
    obtain ⟨rfl, hb⟩ := hend
    exact ⟨_, rfl, .lit _, hb, hG _ _ hb hg⟩
end Lw
