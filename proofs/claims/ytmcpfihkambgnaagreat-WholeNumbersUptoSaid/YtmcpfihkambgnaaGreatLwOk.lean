/- The groups of the four-bar of the fixed run. -/
import Derived.Test.YtmcpfihkambgnaaGreatLwOj
namespace Lw
open Go Go.RowKit Go.Proofs
namespace Fb
open Gr Tw
variable {G : World → Prop}
def T : D := bool true
def Fa : D := bool false
def fRest (known driven used : List D) (gn : Nat) (groups : List D) : List D := [.row 4 false lkJs, .row 1 false lkDs, .row 4 false known, .row 4 false driven, .row 4 false used, .row gn false groups]
def g0c : List D := [nat 0, .row 1 false [nat 1], .row 1 false [nat 0], nat 0]
def g1c : List D := [nat 1, .row 2 false [nat 2, nat 3], .row 3 false [nat 1, nat 3, nat 2], nat 0]
def rest1 : List D := [.row 4 false lkJs, .row 1 false lkDs, .row 4 false [T, Fa, Fa, Fa], .row 4 false [Fa, T, Fa, Fa], .row 4 false [Fa, Fa, Fa, Fa], .row 0 true []]
def rest2 : List D := fRest [T, T, Fa, Fa] [Fa, T, Fa, Fa] [T, Fa, Fa, Fa] 1 g0c
def rest3 : List D := fRest [T, T, T, T] [Fa, T, Fa, Fa] [T, T, T, T] 2 (g0c ++ g1c)
def fin1 : D := finP lkNm 4 lkBs rest1
def fin2 : D := finP lkNm 4 lkBs rest2
def fin3 : D := finP lkNm 4 lkBs rest3
def roJ : FuncId → List Nat := fun f => if f = 295 then [5, 6, 7] else if f = 113 then [32] else []
theorem an1 (hG : Steady G) : Spec Tryz.prog G 293 [fin1, nat 0, nat 1] (int 0) := Spec.of_auto hG (autoOf hG [] [] roJ) Tryz.func293 (ro := []) (m := 60) [] (by kernel_rfl)
theorem an2 (hG : Steady G) : Spec Tryz.prog G 293 [fin2, nat 0, nat 2] (int 1) := Spec.of_auto hG (autoOf hG [] [] roJ) Tryz.func293 (ro := []) (m := 60) [] (by kernel_rfl)
theorem an3 (hG : Steady G) : Spec Tryz.prog G 293 [fin2, nat 0, nat 3] (int 3) := Spec.of_auto hG (autoOf hG [] [] roJ) Tryz.func293 (ro := []) (m := 60) [] (by kernel_rfl)
theorem jn2 (hG : Steady G) : Spec Tryz.prog G 295 [fin2, nat 0, nat 2, .fn 296 [] [.rptr [nat 3]]] (int 2) := Spec.of_auto hG (autoOf hG [] [] roJ) Tryz.func295 (ro := [5, 6, 7]) (m := 60) [] (by kernel_rfl)
def free2 (i : Nat) : Bool := decide (2 ≤ i)
theorem fr2 (hG : Steady G) (i : Nat) (hi : i < 4) : Spec Tryz.prog G 297 [fin2, nat i] (bool (free2 i)) := by
  have : i = 0 ∨ i = 1 ∨ i = 2 ∨ i = 3 := by omega
  rcases this with rfl | rfl | rfl | rfl
  · exact Spec.of_run hG Tryz.func297 (ro := []) (m := 60) [] (by kernel_rfl)
  · exact Spec.of_run hG Tryz.func297 (ro := []) (m := 60) [] (by kernel_rfl)
  · exact Spec.of_run hG Tryz.func297 (ro := []) (m := 60) [] (by kernel_rfl)
  · exact Spec.of_run hG Tryz.func297 (ro := []) (m := 60) [] (by kernel_rfl)
theorem fr3 (hG : Steady G) (i : Nat) (hi : i < 4) : Spec Tryz.prog G 297 [fin3, nat i] (bool false) := by
  have : i = 0 ∨ i = 1 ∨ i = 2 ∨ i = 3 := by omega
  rcases this with rfl | rfl | rfl | rfl
  · exact Spec.of_run hG Tryz.func297 (ro := []) (m := 60) [] (by kernel_rfl)
  · exact Spec.of_run hG Tryz.func297 (ro := []) (m := 60) [] (by kernel_rfl)
  · exact Spec.of_run hG Tryz.func297 (ro := []) (m := 60) [] (by kernel_rfl)
  · exact Spec.of_run hG Tryz.func297 (ro := []) (m := 60) [] (by kernel_rfl)
def an (i : Nat) : Int := if i = 2 then 1 else 3
theorem pa2 (hG : Steady G) : SpecF Tryz.prog G 239 [fin2] (.tup [.agg g1c, bool true]) := by
  refine pair_specF (nm := lkNm) (bs := lkBs) (rest := rest2) (an := an) (jn := fun _ _ => 2) (free := free2) hG (by omega) (fr2 hG) (fun i hi hf => ?_) (fun i j hij hj hi hf => ?_) (fun h => ?_) fun i j hij hj hi hf hh hn => ?_
  · have : i = 2 ∨ i = 3 := by simp only [free2, decide_eq_true_eq] at hf; omega
    rcases this with rfl | rfl
    · exact an2 hG
    · exact an3 hG
  · obtain ⟨rfl, rfl⟩ : i = 2 ∧ j = 3 := by simp only [free2, decide_eq_true_eq] at hf hi; omega
    exact jn2 hG
  · exact absurd (h (2, 3) (by decide)) (by decide)
  · obtain ⟨rfl, rfl⟩ : i = 2 ∧ j = 3 := by simp only [free2, decide_eq_true_eq] at hf hi; omega
    rfl
theorem pa3 (hG : Steady G) : SpecF Tryz.prog G 239 [fin3] failR := by
  refine pair_specF (nm := lkNm) (bs := lkBs) (rest := rest3) (an := an) (jn := fun _ _ => 2) (free := fun _ => false) hG (by omega) (fr3 hG) (fun i hi hf => by cases hf) (fun i j hij hj hi hf => by cases hf) (fun h => rfl) fun i j hij hj hi hf hh hn => by cases hf
def gs : D := .row 2 false (g0c ++ g1c)
theorem spl_spec (hG : Steady G) : Spec Tryz.prog G 47 [lk] (.tup [gs, .lit .nilIface]) :=
  Spec.of_auto hG (autoOf hG [⟨_, _, _, chk_spec hG⟩, ⟨_, _, _, an1 hG⟩] [⟨_, _, _, pa2 hG⟩, ⟨_, _, _, pa3 hG⟩] roJ) Tryz.func47 (ro := []) (m := 60) [] (by kernel_rfl)
end Fb
end Lw
