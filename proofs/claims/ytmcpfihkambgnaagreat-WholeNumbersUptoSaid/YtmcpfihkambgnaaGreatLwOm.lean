/- What callees do in place: the own blocks that are left, those alone that still matter. -/
import Derived.Test.YtmcpfihkambgnaaGreatLwOl
namespace Lw
open Go Go.RowKit
variable {P : Program} {Good : World → Prop}
/-- The blocks below 'mx' and those named. -/
def keepAt (keep : List Nat) (mx : Nat) : Nat → List (Option (List D)) → List (Option (List D))
  | _, [] => []
  | i, o :: l => (match Nat.blt i mx || keep.contains i with | true => o | false => none) :: keepAt keep mx (i + 1) l
theorem keepAt_getD (keep : List Nat) (mx : Nat) : ∀ (i : Nat) (l : List (Option (List D))) (b : Nat), (keepAt keep mx i l).getD b none = if Nat.blt (i + b) mx || keep.contains (i + b) then l.getD b none else none
  | i, [], b => by simp [keepAt]
  | i, o :: l, 0 => by
    simp only [keepAt, List.getD_cons_zero, Nat.add_zero]
    split <;> rename_i h <;> rw [h] <;> rfl
  | i, o :: l, b + 1 => by
    simp only [keepAt, List.getD_cons_succ]
    rw [keepAt_getD keep mx (i + 1) l b, show i + 1 + b = i + (b + 1) by omega]
theorem Inl.keep {fn : Func} {mx : Nat} {args : List D} {blks blks' : List (Option (List D))} {d : D} (h : Inl P Good fn mx args blks [] d blks' []) : Inl P Good fn mx args blks [] d (keepAt d.refs mx 0 blks') [] := by
  intro f hf c w β X vals h1 h2 h3 h4 h5 h6 h7 h8 h9 h10
  refine (h f hf c w β X vals h1 h2 h3 h4 h5 h6 h7 h8 h9 h10).mono fun e w' hend => ?_
  obtain ⟨v, β', X', rfl, hrel, hv, hd⟩ := hend
  have kept : ∀ b, b < c.gb ∨ b ∈ d.refs → (keepAt d.refs mx 0 blks').getD b none = blks'.getD b none := fun b hb => by
    rw [keepAt_getD, Nat.zero_add, if_pos]
    rw [Bool.or_eq_true]
    rcases hb with hb | hb
    · left; rw [Nat.blt_eq]; omega
    · right; exact List.contains_iff_mem.2 hb
  have back : ∀ b cs, (keepAt d.refs mx 0 blks').getD b none = some cs → blks'.getD b none = some cs := fun b cs hb => by
    rw [keepAt_getD] at hb
    split at hb
    · exact hb
    · cases hb
  refine ⟨v, β', X', rfl, ⟨hrel.defers, hrel.size, hrel.tmp, fun t b hb => by simp [D.refs] at hb, fun b cs hb => hrel.blk b cs (back b cs hb), fun b cs hb x hx b' e => ?_, fun b b' e1 e2 => ?_, hrel.F, hrel.Flt, hrel.Xlt, hrel.below, hrel.gh, fun p hp b hb => ?_, hrel.kp.sub fun b hb => ?_⟩, hv, fun b hb => ?_⟩
  · have := (hrel.ndc b cs (back b cs hb) x hx b' e).1
    simp at this
  · obtain ⟨c1, q1⟩ := Option.isSome_iff_exists.1 e1
    obtain ⟨c2, q2⟩ := Option.isSome_iff_exists.1 e2
    exact hrel.inj b b' (by show (blks'.getD b none).isSome = true; rw [back b c1 q1]; rfl) (by show (blks'.getD b' none).isSome = true; rw [back b' c2 q2]; rfl)
  · obtain ⟨q1, q2⟩ := hrel.ghnd p hp b hb
    refine ⟨q1, ?_⟩
    show ((keepAt d.refs mx 0 blks').getD b none).isSome = true
    rw [kept b (.inl q1)]; exact q2
  · obtain ⟨c1, q1⟩ := Option.isSome_iff_exists.1 hb
    show (blks'.getD b none).isSome = true
    rw [back b c1 q1]; rfl
  · rw [kept b (.inr hb)]; exact hd b hb
def runInK (P : Program) {Good : World → Prop} (ro : List Nat) (m mx : Nat) (fn : Func) (args : List D) (blks : List (Option (List D))) (tr : List (Item P Good)) : Option (D × List (Option (List D)) × List Nat × List (Got × Got)) :=
  match runIn P ro m mx fn args blks tr with
  | some (d, blks', ns', eqs) => some (d, keepAt d.refs mx 0 blks', ns', eqs)
  | none => none
theorem Inl.of_autoK (hG : Steady Good) (A : Auto P Good) {fn : Func} (ro : List Nat) (m : Nat) {mx : Nat} {args : List D} {blks blks' : List (Option (List D))} {d : D}
    (h : runInK P ro m mx fn args blks [Item.auto A] = some (d, blks', [], [])) : Inl P Good fn mx args blks [] d blks' [] := by
  unfold runInK at h
  split at h
  · rename_i d1 b1 n1 e1 h1
    simp only [Option.some.injEq, Prod.mk.injEq] at h
    obtain ⟨rfl, rfl, rfl, rfl⟩ := h
    exact (Inl.of_auto hG A h1).keep
  · cases h
def EntI.of {f : FuncId} {fn : Func} (hf : P.funcs[f]? = some fn) {mx : Nat} {args : List D} {blks blks' : List (Option (List D))} {d : D} (h : Inl P Good fn mx args blks [] d blks' []) : EntI P Good :=
  ⟨f, mx, args, blks, d, blks', fun fn' hf' => by rw [hf] at hf'; exact (Option.some.inj hf') ▸ h⟩
end Lw
