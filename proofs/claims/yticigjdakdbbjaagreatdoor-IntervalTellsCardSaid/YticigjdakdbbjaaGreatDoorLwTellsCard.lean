/- The card of IntervalTells. No condition. -/
import Derived.Test.YticigjdakdbbjaaGreatDoorLwWg
import Derived.Test.YticigjdakdbbjaaGreatDoorCards
import Derived.Test.YticigjdakdbbjaaGreatDoorTie
import Derived.Deep.DeepHandedRow
import Derived.SevenTiedAt
import Derived.LaidMore
import Derived.Lib.LaidU8
import Derived.Lib.SmallJoins
namespace Go.Proofs.YticigjdakdbbjaaGreatDoor
namespace intervalTells
open Go Go.ChangeShapes Go.WideShapes Go.ChangeAt Go.RowKit

theorem own : ownKnob Tryz.prog.godebug = none := by kernel_rfl
theorem laidOut : laidOutB Tryz.prog = true := by kernel_rfl
theorem gPow : Tryz.prog.globalNamed "internal/strconv.uint64pow10" = some 0 := by kernel_rfl
theorem steady : Lw.Steady Lw.Tab := fun _ _ hb h => Go.Joins.tab_stays gPow h hb (Nat.le_refl _)
/-- The table lies where the row lists it. -/
theorem tab_of {W : World} (h : laidMetH Tryz.prog Rows.intervalTellsRow.laid W) : Lw.Tab W := by
  have h1 : laidMet Tryz.prog Rows.intervalTellsRow.laid W := h
  obtain ⟨g, t, cs, fuel, p, e1, e2, e3, e4⟩ := Lib.laidMet.reads (n := "internal/strconv.uint64pow10") (d := Lib.tabData .u64 Lib.pow10Tab) h1 (by
    refine .tail _ (.tail _ (.head _)))
  have hg := Option.some.inj (gPow.symm.trans e1)
  subst hg
  have ht : (Tryz.prog.globals[0]?).map (·.type) = some 143 := by kernel_rfl
  have htt := Option.some.inj (ht.symm.trans e2)
  subst htt
  have := Lib.cells_of_tab Tryz.underlying143 Tryz.underlying99 (by kernel_rfl) (by kernel_rfl) e4
  unfold Lw.Tab Lib.TabIs
  rw [e3, ← this]
theorem wide_keep {t : TypeId} (hr : Tryz.prog.readableRec t = true) (hrow : t < Tryz.prog.types.size) {H : Type} {enc : TypeId × Value → H} {W W' : World} {v : Value} {d : DataW H} {ps : List MemPlace}
    (h : DataW.Trod enc Tryz.prog W 0 (fun _ => true) true t v d ps) (hb : Below W.heap.size W W') (hlt : ∀ x ∈ ps, x.block < W.heap.size) :
    DataW.Trod enc Tryz.prog W' 0 (fun b => decide (b < W.heap.size)) true t v d ps := Below.trod laidOut hr hrow h hb hlt
set_option maxRecDepth 100000 in
theorem contract (H : Type) (enc : TypeId × Value → H) (W : World) (base : Nat) (args : Array Value) (ds gs : List (DataW H)) (before : List MemPlace) (hT : Lw.Tab W)
    (hval : ∀ (j : Nat) t v, Tryz.f3.params[j]? = some t → args[j]? = some v → Value.okWide Tryz.prog W .any base t v)
    (hW : DataW.Whole enc Tryz.prog Tryz.f3.params.toList Rows.intervalTellsSpec.vars false W args.toList ds gs before) :
    Calls Tryz.prog 3 args W fun e W' => ∃ v, e = .returned v ∧ Rows.intervalTellsSpec.post enc Tryz.prog Tryz.f3 false true false false W args v W' := by
  have hW' := hW
  obtain ⟨p, q, hA0, hV, rfl, hfz, hnd⟩ := hW
  have hA : DataW.TrodAll enc Tryz.prog W 0 (fun _ => true) true Tryz.f3.params.toList args.toList ds p := hA0
  rw [Tryz.params3] at hA hval
  obtain ⟨v0, v1, d0, d1, p0, p1, rfl, rfl, rfl, h0, h1⟩ := trodAll_two hA
  obtain ⟨rfl, rfl⟩ := trodVars_none hV
  clear hA0
  simp only [List.append_nil] at hW'
  obtain ⟨r0, g0, q0⟩ := Lw.range_arg h0
  obtain ⟨r1, g1, q1⟩ := Lw.range_arg h1
  have lt0 : ∀ x ∈ p0, x.block < W.heap.size := fun x hx => hW'.lt x (by simp [hx])
  have lt1 : ∀ x ∈ p1, x.block < W.heap.size := fun x hx => hW'.lt x (by simp [hx])
  have hspec := Lw.Tells_spec (G := Lw.Tab) steady (fun _ h => h) g0 g1 W Lw.NoX [v0, v1] hT (Lw.Reps.cons q0 (Lw.Reps.cons q1 Lw.Reps.nil)) (fun k hk => hk.elim)
  refine hspec.mono fun e W' hend => ?_
  obtain ⟨v, rfl, hv, hb, -⟩ := hend
  cases hv
  have arg0 := wide_keep (by kernel_rfl) (of_decide_eq_true (by kernel_rfl)) h0 hb lt0
  have arg1 := wide_keep (by kernel_rfl) (of_decide_eq_true (by kernel_rfl)) h1 hb lt1
  refine ⟨_, rfl, _, _, _, [], _, [], hW', trodAll_mk1 (shut_bool Tryz.underlying4 _), trodAll_mk2 arg0 arg1, rfl, hb.frame _, fun h => by cases h⟩

def zeroV_range : Value := .agg #[.bool false, .slice none 0 0, .slice none 0 0, .bool false, .slice none 0 0, .slice none 0 0]
def zeroD_range {H : Type} : DataW H := .agg [.agg [.lit (.bool false), .nil, .nil], .agg [.lit (.bool false), .nil, .nil]]
def zeroArgs : Array Value := #[zeroV_range, zeroV_range]
theorem laid_met (os : Os) : laidMetH Tryz.prog Rows.intervalTellsRow.laid ((World.doorLaid Tryz.prog 400 os).forCall (fun _ _ => 0) ⟨#[], zeroArgs, []⟩).memory := laidMet_of_run' 8 (by kernel_rfl) (by kernel_rfl)
theorem reads (os : Os) {H : Type} (enc : TypeId × Value → H) : ∃ places, DataW.whole enc Tryz.prog ((World.doorLaid Tryz.prog 400 os).forCall (fun _ _ => 0) ⟨#[], zeroArgs, []⟩).memory Tryz.f3.params.toList Rows.intervalTellsSpec.vars false zeroArgs.toList 8 = some ([zeroD_range, zeroD_range], [], places) :=
  ⟨[], by kernel_rfl⟩
set_option maxRecDepth 100000 in
theorem lifted (os : Os) (started : os.Started) (H : Type) (enc : TypeId × Value → H) (F : Stop.Interp) :
    ReturnsInHanded {} Tryz.checked os 3 .any ((OpenSpec.ofChange Rows.intervalTellsSpec).preRow enc Tryz.prog Tryz.f3 Rows.intervalTellsRow.domain false Rows.intervalTellsRow.laid) (((OpenSpec.ofChange Rows.intervalTellsSpec).at F).post enc Tryz.prog Tryz.f3 false true false false) := by
  obtain ⟨places, hx⟩ := reads os enc
  refine returnsInHanded_of_row (C := Tryz.checked) (s := OpenSpec.ofChange Rows.intervalTellsSpec) own started (by kernel_rfl) Tryz.func3
    (witness_row_at (enc := enc) (C := Tryz.checked) false (World.doorLaid Tryz.prog 400 os) zeroArgs rfl (by kernel_rfl) (by kernel_rfl) (by kernel_rfl)
      (OpenSpec.preRow_of_cond 8 hx (by kernel_rfl) (fun k hk => by cases hk) (by kernel_rfl) (laid_met os))) ?_
  intro W base args ds gs before hval hW _ _ hz hL _ _
  exact contract H enc W base args ds gs before (tab_of hL) hval hW
theorem said : Rows.IntervalTellsSaid :=
  OpenClaim.holds_of_cond 3 Tryz.f3 rfl rfl rfl rfl rfl rfl rfl ⟨rfl, rfl, rfl, rfl, rfl⟩ rfl rfl rfl rfl rfl (by kernel_rfl) Tryz.func3 (by kernel_rfl)
    (of_decide_eq_true (by kernel_rfl)) (by unfold Func.isWrapper; first | (rw [if_pos (by decide +kernel)]; kernel_rfl) | (rw [if_neg (by decide +kernel)]; exact ⟨rfl, rfl⟩))
    (fun os started H enc _ F => by rw [OpenClaim.pre_eq_preRow]; exact lifted os started H enc F)
theorem plain (f : FuncId) (fn : Func) (hf : Tryz.pinned.checked.prog.funcNamed "linkwork/linkworklaw03.IntervalTells" = some f) (hfn : Tryz.pinned.checked.prog.funcs[f]? = some fn) :
    true = Tryz.pinned.checked.prog.looks [] ∧ ∀ (j : Nat) t, fn.params[j]? = some t → Tryz.pinned.checked.prog.wantsStandIn t = false := by
  obtain rfl : f = 3 := Option.some.inj ((show Tryz.prog.funcNamed "linkwork/linkworklaw03.IntervalTells" = some 3 by kernel_rfl).symm.trans hf) |>.symm
  obtain rfl : fn = Tryz.f3 := (Option.some.inj (Tryz.func3.symm.trans hfn)).symm
  refine ⟨by kernel_rfl, fun j t ht => ?_⟩
  rw [Tryz.params3] at ht
  have hm : t ∈ [26, 26] := by simpa using Array.mem_of_getElem? ht
  have hall : ([26, 26].all fun u => !Tryz.prog.wantsStandIn u) = true := by kernel_rfl
  exact (show Tryz.prog.wantsStandIn t = false by simpa using List.all_eq_true.1 hall t hm)
end intervalTells
/-- The statement, for every input. -/
theorem intervalTells_card : Rows.IntervalTellsCardSaid :=
  Claim7.holds_tied_plain_at .later [] _ _ _ _ intervalTells.said (fun _ h => by cases h) (by kernel_rfl) (fun _ h => by cases h) intervalTells_row_tie rfl ⟨rfl, rfl⟩ (by kernel_rfl) rfl intervalTells.plain (by kernel_rfl)
end Go.Proofs.YticigjdakdbbjaaGreatDoor
