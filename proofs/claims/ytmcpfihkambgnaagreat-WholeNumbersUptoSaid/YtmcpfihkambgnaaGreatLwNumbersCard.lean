/- WholeNumbers, where what it reads is of bulk at most 1048576. No other condition. -/
import Derived.Test.YtmcpfihkambgnaaGreatLwOr
import Derived.Test.YtmcpfihkambgnaaGreatLwOq
import Derived.Test.YtmcpfihkambgnaaGreatLwOt
import Derived.Test.YtmcpfihkambgnaaGreatRows
import Derived.WalkKit
import Derived.ProofKit
import Derived.OpenShut
import Derived.JoinedCond
import Derived.LaidMore
namespace Go.Proofs.YtmcpfihkambgnaaGreat
namespace wholeNumbers
open Go Go.ChangeShapes Go.WideShapes Go.ChangeAt Go.RowKit

theorem own : ownKnob Tryz.prog.godebug = none := by kernel_rfl
theorem laidOut : laidOutB Tryz.prog = true := by kernel_rfl
theorem trivially : Lw.Steady (fun _ => True) := fun _ _ _ _ => True.intro
theorem wide_keep {t : TypeId} (hr : Tryz.prog.readableRec t = true) (hrow : t < Tryz.prog.types.size) {H : Type} {enc : TypeId × Value → H} {W W' : World} {v : Value} {d : DataW H} {ps : List MemPlace}
    (h : DataW.Trod enc Tryz.prog W 0 (fun _ => true) true t v d ps) (hb : Below W.heap.size W W') (hlt : ∀ x ∈ ps, x.block < W.heap.size) :
    DataW.Trod enc Tryz.prog W' 0 (fun b => decide (b < W.heap.size)) true t v d ps := Below.trod laidOut hr hrow h hb hlt
theorem bound {H : Type} {d0 d1 : DataW H} (hk : Rows.uptoSmall H [d0, d1] = true) : Lw.bulk d0 + Lw.bulk d1 ≤ 1048576 := by
  have h : Rows.uptoBulkAll [d0, d1] ≤ 1048576 := of_decide_eq_true hk
  simp only [Rows.uptoBulkAll] at h
  show Rows.uptoBulk d0 + Rows.uptoBulk d1 ≤ 1048576
  omega
set_option maxRecDepth 100000 in
theorem contract (H : Type) (enc : TypeId × Value → H) (W : World) (base : Nat) (args : Array Value) (ds gs : List (DataW H)) (before : List MemPlace)
    (hval : ∀ (j : Nat) t v, Tryz.f6.params[j]? = some t → args[j]? = some v → Value.okWide Tryz.prog W .any base t v)
    (hW : DataW.Whole enc Tryz.prog Tryz.f6.params.toList Rows.wholeNumbersSpec.vars false W args.toList ds gs before) (hk : Rows.uptoSmall H (ds ++ gs) = true) :
    Calls Tryz.prog 6 args W fun e W' => ∃ v, e = .returned v ∧ Rows.wholeNumbersSpec.post enc Tryz.prog Tryz.f6 false true false false W args v W' := by
  have hW' := hW
  obtain ⟨p, q, hA0, hV, rfl, hfz, hnd⟩ := hW
  have hA : DataW.TrodAll enc Tryz.prog W 0 (fun _ => true) true Tryz.f6.params.toList args.toList ds p := hA0
  rw [Tryz.params6] at hA hval
  obtain ⟨v0, vs0, d0, ds0, p0, q0, hargs, rfl, rfl, h0, r0⟩ := trodAll_cons hA
  obtain ⟨v1, vs1, d1, ds1, p1, q1, rfl, rfl, rfl, h1, r1⟩ := trodAll_cons r0
  obtain ⟨rfl, rfl, rfl⟩ := trodAll_nil r1
  obtain rfl : args = #[v0, v1] := by cases args; simp_all
  obtain ⟨rfl, rfl⟩ := trodVars_none hV
  clear hA0
  simp only [List.append_nil] at hW' hk
  obtain ⟨t, t1, t2, t3⟩ := Lw.tower_argB (hval 0 _ v0 rfl rfl) h0
  obtain ⟨l, l1, l2⟩ := Lw.num_argB (hval 1 _ v1 rfl rfl) h1
  have lt0 : ∀ x ∈ p0, x.block < W.heap.size := fun x hx => hW'.lt x (by simp [hx])
  have lt1 : ∀ x ∈ p1, x.block < W.heap.size := fun x hx => hW'.lt x (by simp [hx])
  have hspec := Lw.Tw.Numbers_spec (G := fun _ => True) trivially (Lw.Fb.awake28_spec trivially) (Lw.fits_of t1 t2 l1 (bound hk)) W Lw.NoX [v0, v1] True.intro (Lw.Reps.cons t3 (Lw.Reps.cons l2 Lw.Reps.nil)) (fun k hk => hk.elim)
  refine hspec.mono fun e W' hend => ?_
  obtain ⟨v, rfl, hv, hb, -⟩ := hend
  cases hv
  have arg0 := wide_keep (by kernel_rfl) (of_decide_eq_true (by kernel_rfl)) h0 hb lt0
  have arg1 := wide_keep (by kernel_rfl) (of_decide_eq_true (by kernel_rfl)) h1 hb lt1
  refine ⟨_, rfl, _, _, _, [], _, [], hW', trodAll_mk1 (shut_bool Tryz.underlying4 _), trodAll_mk2 arg0 arg1, rfl, hb.frame _, fun h => by cases h⟩

set_option maxRecDepth 100000 in
theorem lifted (os : Os) (started : os.Started) (H : Type) (enc : TypeId × Value → H) (F : Stop.Interp) :
    ReturnsInHanded {} Tryz.checked os 6 .any ((Rows.OpenSpec.upto Rows.wholeNumbersSpec).pre6 enc Tryz.prog Tryz.f6 Rows.wholeNumbersUptoRow.domain false) (((Rows.OpenSpec.upto Rows.wholeNumbersSpec).at F).post enc Tryz.prog Tryz.f6 false true false false) := by
  refine returnsInHanded_of_cond (C := Tryz.checked) (s := Rows.OpenSpec.upto Rows.wholeNumbersSpec) (k := Rows.uptoSmall) rfl own started (by kernel_rfl) Tryz.func6
    (OpenSpec.witness (enc := enc) (C := Tryz.checked) (s := Rows.OpenSpec.upto Rows.wholeNumbersSpec) (k := Rows.uptoSmall) rfl false ⟨#[], #[.agg #[.slice none 0 0], .slice none 0 0], []⟩ 8 (by kernel_rfl) (by kernel_rfl) (by kernel_rfl)
      (x := ([.agg [.nil], .nil], [], [])) (by kernel_rfl) rfl (by kernel_rfl)) ?_
  intro W base args ds gs before hval hW _ hk _
  exact contract H enc W base args ds gs before hval hW hk
end wholeNumbers
/-- The statement, where what it reads is of bulk at most 1048576. -/
theorem wholeNumbers_upto : Rows.WholeNumbersUptoSaid :=
  OpenClaim.holds_of_cond 6 Tryz.f6 rfl rfl rfl rfl rfl rfl rfl ⟨rfl, rfl, rfl, rfl, rfl⟩ rfl rfl rfl rfl rfl (by kernel_rfl) Tryz.func6 wholeNumbers.facts
    (of_decide_eq_true (by kernel_rfl)) (by unfold Func.isWrapper; first | (rw [if_pos (by decide +kernel)]; kernel_rfl) | (rw [if_neg (by decide +kernel)]; exact ⟨rfl, rfl⟩))
    (fun os started H enc _ F => wholeNumbers.lifted os started H enc F)
end Go.Proofs.YtmcpfihkambgnaaGreat
