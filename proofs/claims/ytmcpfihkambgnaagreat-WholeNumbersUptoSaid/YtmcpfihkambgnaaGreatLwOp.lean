/- The four-bar at the turn 1: its first group solved; its second assembly verified. -/
import Derived.Test.YtmcpfihkambgnaaGreatLwOo
namespace Lw
open Go Go.RowKit Go.Proofs
namespace Fb
open Gr Tw
variable {G : World → Prop}
def sol0 : D := .tup [.row 1 false [.row 0 false [], .row 1 false [.row 0 false [], .row 1 false [bool false, .row 1 false [u32 1], .row 1 false [u32 1]], .row 0 false [], .row 0 false []], nat 1], .lit .nilIface]
def xs1 : D := .row 1 false [bool false, rowW [1], rowW [1], bool false]
def a2b : D := .agg [.row 1 false [.row 1 false [bool false, .row 1 false [u32 323], .row 1 false [u32 1]]], .row 4 false [.row 1 false [bool false, .row 1 false [u32 1], .row 1 false [u32 1]], .row 0 false [], .row 0 false [], .row 0 false [], .row 0 false [], .row 1 false [bool false, .row 1 false [u32 1], .row 1 false [u32 1]], .row 0 false [], .row 0 false [], .row 2 false [bool false, .row 1 false [u32 2], .row 1 false [u32 3], bool true, .row 1 false [u32 1], .row 1 false [u32 102]], .row 2 false [bool true, .row 1 false [u32 1], .row 1 false [u32 6], bool true, .row 1 false [u32 2], .row 1 false [u32 51]], .row 0 false [], .row 1 false [bool false, .row 1 false [u32 1], .row 1 false [u32 1]], .row 2 false [bool true, .row 1 false [u32 2], .row 1 false [u32 3], bool true, .row 1 false [u32 1], .row 1 false [u32 102]], .row 2 false [bool false, .row 1 false [u32 1], .row 1 false [u32 6], bool true, .row 1 false [u32 2], .row 1 false [u32 51]], .row 1 false [bool false, .row 1 false [u32 4], .row 1 false [u32 1]], .row 0 false []], .row 2 false [nat 1, int (-1)]]
def roV : FuncId → List Nat := fun f => if f = 195 then [] else roW f
theorem sol0_spec (hG : Steady G) : Spec Tryz.prog G 83 [lk, nat 0, xt, a0] sol0 :=
  Spec.of_auto hG (autoOf hG (eB hG) [] roV) Tryz.func83 (ro := []) (m := 100) [] (by kernel_rfl)
def verR : D := .tup [bool true, .agg [nat 0, nat 0], .lit .nilIface]
theorem ver_spec (hG : Steady G) : Spec Tryz.prog G 11 [lk, xs1, a2b] verR :=
  Spec.of_auto hG (autoOf hG (eB hG) [] roW) Tryz.func11 (ro := []) (m := 100) [] (by kernel_rfl)
end Fb
end Lw
