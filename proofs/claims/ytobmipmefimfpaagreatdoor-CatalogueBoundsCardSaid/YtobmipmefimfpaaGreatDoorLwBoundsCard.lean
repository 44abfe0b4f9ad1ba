/- The card of CatalogueBounds. No condition. -/
import Derived.Test.YtobmipmefimfpaaGreatDoorLwKj
import Derived.Test.YtobmipmefimfpaaGreatDoorCards
import Derived.Test.YtobmipmefimfpaaGreatDoorTie
import Derived.Deep.DeepHandedRow
import Derived.SevenTiedAt
import Derived.LaidMore
namespace Go.Proofs.YtobmipmefimfpaaGreatDoor
namespace catalogueBounds
open Go Go.ChangeShapes Go.WideShapes Go.ChangeAt Go.RowKit

theorem own : ownKnob Tryz.prog.godebug = none := by kernel_rfl
theorem laidOut : laidOutB Tryz.prog = true := by kernel_rfl
theorem trivially : Lw.Steady (fun _ => True) := fun _ _ _ _ => True.intro
theorem wide_keep {t : TypeId} (hr : Tryz.prog.readableRec t = true) (hrow : t < Tryz.prog.types.size) {H : Type} {enc : TypeId × Value → H} {W W' : World} {v : Value} {d : DataW H} {ps : List MemPlace}
    (h : DataW.Trod enc Tryz.prog W 0 (fun _ => true) true t v d ps) (hb : Below W.heap.size W W') (hlt : ∀ x ∈ ps, x.block < W.heap.size) :
    DataW.Trod enc Tryz.prog W' 0 (fun b => decide (b < W.heap.size)) true t v d ps := Below.trod laidOut hr hrow h hb hlt
set_option maxRecDepth 100000 in
theorem contract (H : Type) (enc : TypeId × Value → H) (W : World) (base : Nat) (args : Array Value) (ds gs : List (DataW H)) (before : List MemPlace)
    (hval : ∀ (j : Nat) t v, Tryz.f4.params[j]? = some t → args[j]? = some v → Value.okWide Tryz.prog W .any base t v)
    (hW : DataW.Whole enc Tryz.prog Tryz.f4.params.toList Rows.catalogueBoundsSpec.vars false W args.toList ds gs before) :
    Calls Tryz.prog 4 args W fun e W' => ∃ v, e = .returned v ∧ Rows.catalogueBoundsSpec.post enc Tryz.prog Tryz.f4 false true false false W args v W' := by
  have hW' := hW
  obtain ⟨p, q, hA0, hV, rfl, hfz, hnd⟩ := hW
  have hA : DataW.TrodAll enc Tryz.prog W 0 (fun _ => true) true Tryz.f4.params.toList args.toList ds p := hA0
  rw [Tryz.params4] at hA hval
  obtain ⟨v0, v1, v2, d0, d1, d2, p0, p1, p2, rfl, rfl, rfl, h0, h1, h2⟩ := trodAll_three hA
  obtain ⟨rfl, rfl⟩ := trodVars_none hV
  clear hA0
  simp only [List.append_nil] at hW'
  obtain ⟨r0, g0, f0, q0⟩ := Lw.cat_arg h0
  obtain ⟨r1, q1⟩ := Lw.i4_arg h1
  obtain ⟨r2, q2⟩ := Lw.i4_arg h2
  have lt0 : ∀ x ∈ p0, x.block < W.heap.size := fun x hx => hW'.lt x (by simp [hx])
  have lt1 : ∀ x ∈ p1, x.block < W.heap.size := fun x hx => hW'.lt x (by simp [hx])
  have lt2 : ∀ x ∈ p2, x.block < W.heap.size := fun x hx => hW'.lt x (by simp [hx])
  have hspec := Lw.Bounds_spec (G := fun _ => True) trivially g0 f0 r1 r2 W Lw.NoX [v0, v1, v2] True.intro (Lw.Reps.cons q0 (Lw.Reps.cons q1 (Lw.Reps.cons q2 Lw.Reps.nil))) (fun k hk => hk.elim)
  refine hspec.mono fun e W' hend => ?_
  obtain ⟨v, rfl, hv, hb, -⟩ := hend
  cases hv
  have arg0 := wide_keep (by kernel_rfl) (of_decide_eq_true (by kernel_rfl)) h0 hb lt0
  have arg1 := wide_keep (by kernel_rfl) (of_decide_eq_true (by kernel_rfl)) h1 hb lt1
  have arg2 := wide_keep (by kernel_rfl) (of_decide_eq_true (by kernel_rfl)) h2 hb lt2
  refine ⟨_, rfl, _, _, _, [], _, [], hW', trodAll_mk1 (shut_bool Tryz.underlying4 _), trodAll_mk3 arg0 arg1 arg2, rfl, hb.frame _, fun h => by cases h⟩

def zeroV_cat : Value := .agg #[.slice none 0 0, .slice none 0 0, .slice none 0 0, .slice none 0 0, .slice none 0 0]
def zeroD_cat {H : Type} : DataW H := .agg [.nil, .nil, .nil, .nil, .nil]
def zeroV_i4 : Value := .agg #[.int .i64 0, .int .i64 0, .int .i64 0, .int .i64 0]
def zeroD_i4 {H : Type} : DataW H := .agg [.lit (.int .i64 0), .lit (.int .i64 0), .lit (.int .i64 0), .lit (.int .i64 0)]
def zeroArgs : Array Value := #[zeroV_cat, zeroV_i4, zeroV_i4]
theorem laid_met (os : Os) : laidMetH Tryz.prog Rows.catalogueBoundsRow.laid ((World.doorLaid Tryz.prog 400 os).forCall (fun _ _ => 0) ⟨#[], zeroArgs, []⟩).memory := laidMet_of_run' 8 (by kernel_rfl) (by kernel_rfl)
theorem reads (os : Os) {H : Type} (enc : TypeId × Value → H) : ∃ places, DataW.whole enc Tryz.prog ((World.doorLaid Tryz.prog 400 os).forCall (fun _ _ => 0) ⟨#[], zeroArgs, []⟩).memory Tryz.f4.params.toList Rows.catalogueBoundsSpec.vars false zeroArgs.toList 8 = some ([zeroD_cat, zeroD_i4, zeroD_i4], [], places) :=
  ⟨[], by kernel_rfl⟩
set_option maxRecDepth 100000 in
theorem lifted (os : Os) (started : os.Started) (H : Type) (enc : TypeId × Value → H) (F : Stop.Interp) :
    ReturnsInHanded {} Tryz.checked os 4 .any ((OpenSpec.ofChange Rows.catalogueBoundsSpec).preRow enc Tryz.prog Tryz.f4 Rows.catalogueBoundsRow.domain false Rows.catalogueBoundsRow.laid) (((OpenSpec.ofChange Rows.catalogueBoundsSpec).at F).post enc Tryz.prog Tryz.f4 false true false false) := by
  obtain ⟨places, hx⟩ := reads os enc
  refine returnsInHanded_of_row (C := Tryz.checked) (s := OpenSpec.ofChange Rows.catalogueBoundsSpec) own started (by kernel_rfl) Tryz.func4
    (witness_row_at (enc := enc) (C := Tryz.checked) false (World.doorLaid Tryz.prog 400 os) zeroArgs rfl (by kernel_rfl) (by kernel_rfl) (by kernel_rfl)
      (OpenSpec.preRow_of_cond 8 hx (by kernel_rfl) (fun k hk => by cases hk) (by kernel_rfl) (laid_met os))) ?_
  intro W base args ds gs before hval hW _ _ hz hL _ _
  exact contract H enc W base args ds gs before hval hW
theorem said : Rows.CatalogueBoundsSaid :=
  OpenClaim.holds_of_cond 4 Tryz.f4 rfl rfl rfl rfl rfl rfl rfl ⟨rfl, rfl, rfl, rfl, rfl⟩ rfl rfl rfl rfl rfl (by kernel_rfl) Tryz.func4 (by kernel_rfl)
    (of_decide_eq_true (by kernel_rfl)) (by unfold Func.isWrapper; first | (rw [if_pos (by decide +kernel)]; kernel_rfl) | (rw [if_neg (by decide +kernel)]; exact ⟨rfl, rfl⟩))
    (fun os started H enc _ F => by rw [OpenClaim.pre_eq_preRow]; exact lifted os started H enc F)
theorem plain (f : FuncId) (fn : Func) (hf : Tryz.pinned.checked.prog.funcNamed "linkwork/linkworklaw49.CatalogueBounds" = some f) (hfn : Tryz.pinned.checked.prog.funcs[f]? = some fn) :
    true = Tryz.pinned.checked.prog.looks [] ∧ ∀ (j : Nat) t, fn.params[j]? = some t → Tryz.pinned.checked.prog.wantsStandIn t = false := by
  obtain rfl : f = 4 := Option.some.inj ((show Tryz.prog.funcNamed "linkwork/linkworklaw49.CatalogueBounds" = some 4 by kernel_rfl).symm.trans hf) |>.symm
  obtain rfl : fn = Tryz.f4 := (Option.some.inj (Tryz.func4.symm.trans hfn)).symm
  refine ⟨by kernel_rfl, fun j t ht => ?_⟩
  rw [Tryz.params4] at ht
  have hm : t ∈ [25, 26, 26] := by simpa using Array.mem_of_getElem? ht
  have hall : ([25, 26, 26].all fun u => !Tryz.prog.wantsStandIn u) = true := by kernel_rfl
  exact (show Tryz.prog.wantsStandIn t = false by simpa using List.all_eq_true.1 hall t hm)
end catalogueBounds
/-- The statement, for every input. -/
theorem catalogueBounds_card : Rows.CatalogueBoundsCardSaid :=
  Claim7.holds_tied_plain_at .later [] _ _ _ _ catalogueBounds.said (fun _ h => by cases h) (by kernel_rfl) (fun _ h => by cases h) catalogueBounds_row_tie rfl ⟨rfl, rfl⟩ (by kernel_rfl) rfl catalogueBounds.plain (by kernel_rfl)
end Go.Proofs.YtobmipmefimfpaaGreatDoor
