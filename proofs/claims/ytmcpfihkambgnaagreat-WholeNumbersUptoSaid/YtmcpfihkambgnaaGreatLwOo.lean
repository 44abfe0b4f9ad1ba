/- The four-bar at the turn 1: its second group solved. -/
import Derived.Test.YtmcpfihkambgnaaGreatLwOn
namespace Lw
open Go Go.RowKit Go.Proofs
namespace Fb
open Gr Tw
variable {G : World → Prop}
def opC : List D := (match lk with | .agg l => l | _ => []) ++ g1c ++ (match a1 with | .agg l => l | _ => []) ++ [.lit .nilIface]
def opR : D := .tup [.ptr 10 0, .lit .nilIface]
def opB : List (Option (List D)) := List.replicate 10 none ++ [some opC]
theorem open_inl (hG : Steady G) : Inl Tryz.prog G Tryz.f148 0 [lk, nat 1, a1, bool false] [] [] opR opB [] :=
  Inl.of_autoK hG (autoOf hG (eB hG) [] roW) (roW 148) 100 (by kernel_rfl)
theorem sol1_spec (hG : Steady G) : Spec Tryz.prog G 83 [lk, nat 1, x0, a1] placedR :=
  Spec.of_auto hG (autoOf hG (⟨_, _, _, placed_spec hG⟩ :: ⟨_, _, _, circ_spec hG⟩ :: eB hG) [] roW (fun _ => false) [EntI.of Tryz.func148 (open_inl hG)]) Tryz.func83 (ro := []) (m := 100) [] (by kernel_rfl)
end Fb
end Lw
