/- The four-bar at the turn 1: its data; where the circles meet, and the group placed there. -/
import Derived.Test.YtmcpfihkambgnaaGreatLwOm
namespace Lw
open Go Go.RowKit Go.Proofs
namespace Fb
open Gr Tw
variable {G : World → Prop}
/-- What the runs are told of the callees. -/
def roW : FuncId → List Nat := fun f => if f = 148 then [999] else if f = 190 then [999] else if f = 174 then [18, 22] else if f = 82 then [11] else if f = 207 then [1009] else if f = 315 then [1003, 30] else if f = 195 then [1003, 27] else if f = 201 then [34, 1015010] else if f = 191 then [999] else if f = 247 then [999] else if f = 301 then [999] else if f = 85 then [3, 4, 5] else if f = 153 then [997] else if f = 146 then [997] else if f = 34 then [999, 41] else if f = 35 then [999, 2013010] else if f = 39 then [3, 4, 5] else []
def nl : D := .row 0 false []
def one1 : D := .row 1 false [bool false, rowW [1], rowW [1]]
def xt : D := .agg [bool false, rowW [1], rowW [1], bool false]
def a0 : D := .agg [nl, .row 4 false [one1, nl, nl, nl, nl, nl, nl, nl, nl, nl, nl, nl, nl, nl, nl, nl], nl]
def x0 : D := .agg [bool false, nl, nl, bool false]
def a1 : D := .agg [nl, .row 4 false [one1, nl, nl, nl, nl, one1, nl, nl, nl, nl, nl, nl, nl, nl, nl, nl], .row 1 false [nat 1]]
def tw0 : D := .agg [nl]
def num (n : Nat) : D := .row 1 false [bool false, rowW [n], rowW [1]]
def ca : D := .agg [nl, one1, num 9]
def cb : D := .agg [num 4, nl, num 9]
def circR : D := .tup [.agg [.row 1 false [.row 1 false [bool false, .row 1 false [u32 323], .row 1 false [u32 1]]], .row 2 false [.row 2 false [bool false, .row 1 false [u32 2], .row 1 false [u32 1], bool false, .row 1 false [u32 1], .row 1 false [u32 34]], .row 2 false [bool false, .row 1 false [u32 1], .row 1 false [u32 2], bool false, .row 1 false [u32 2], .row 1 false [u32 17]], .row 2 false [bool false, .row 1 false [u32 2], .row 1 false [u32 1], bool true, .row 1 false [u32 1], .row 1 false [u32 34]], .row 2 false [bool false, .row 1 false [u32 1], .row 1 false [u32 2], bool true, .row 1 false [u32 2], .row 1 false [u32 17]]]], .lit .nilIface]
def met1 : D := match circR with | .tup (m :: _) => m | _ => .any
def q0L : List D := [bool false, nl, nl]
def qL (n : Nat) : List D := [bool false, rowW [n], rowW [1]]
def heldA : List D := q0L ++ q0L ++ [nl, one1] ++ qL 3 ++ q0L
def heldB : List D := q0L ++ q0L ++ [num 4, nl] ++ qL 3 ++ q0L
def placedR : D := .tup [.row 2 false [.row 1 false [.row 1 false [bool false, .row 1 false [u32 323], .row 1 false [u32 1]]], .row 2 false [.row 2 false [bool false, .row 1 false [u32 2], .row 1 false [u32 3], bool false, .row 1 false [u32 1], .row 1 false [u32 102]], .row 2 false [bool true, .row 1 false [u32 1], .row 1 false [u32 6], bool false, .row 1 false [u32 2], .row 1 false [u32 51]], .row 0 false [], .row 1 false [bool false, .row 1 false [u32 1], .row 1 false [u32 1]], .row 2 false [bool true, .row 1 false [u32 2], .row 1 false [u32 3], bool false, .row 1 false [u32 1], .row 1 false [u32 102]], .row 2 false [bool false, .row 1 false [u32 1], .row 1 false [u32 6], bool false, .row 1 false [u32 2], .row 1 false [u32 51]], .row 1 false [bool false, .row 1 false [u32 4], .row 1 false [u32 1]], .row 0 false []], nat 1, .row 1 false [.row 1 false [bool false, .row 1 false [u32 323], .row 1 false [u32 1]]], .row 2 false [.row 2 false [bool false, .row 1 false [u32 2], .row 1 false [u32 3], bool true, .row 1 false [u32 1], .row 1 false [u32 102]], .row 2 false [bool true, .row 1 false [u32 1], .row 1 false [u32 6], bool true, .row 1 false [u32 2], .row 1 false [u32 51]], .row 0 false [], .row 1 false [bool false, .row 1 false [u32 1], .row 1 false [u32 1]], .row 2 false [bool true, .row 1 false [u32 2], .row 1 false [u32 3], bool true, .row 1 false [u32 1], .row 1 false [u32 102]], .row 2 false [bool false, .row 1 false [u32 1], .row 1 false [u32 6], bool true, .row 1 false [u32 2], .row 1 false [u32 51]], .row 1 false [bool false, .row 1 false [u32 4], .row 1 false [u32 1]], .row 0 false []], int (-1)], .lit .nilIface]
def eB (hG : Steady G) : List (Ent Tryz.prog G) := [⟨_, _, _, spl_spec hG⟩, ⟨_, _, _, chk_spec hG⟩]
theorem circ_spec (hG : Steady G) : Spec Tryz.prog G 199 [tw0, ca, cb] circR :=
  Spec.of_auto hG (autoOf hG (eB hG) [] roW) Tryz.func199 (ro := roW 199) (m := 60) [] (by kernel_rfl)
theorem placed_spec (hG : Steady G) : Spec Tryz.prog G 201 [met1, .row 2 false (heldA ++ heldB)] placedR :=
  Spec.of_auto hG (autoOf hG (eB hG) [] roW) Tryz.func201 (ro := roW 201) (m := 60) [] (by kernel_rfl)
end Fb
end Lw
